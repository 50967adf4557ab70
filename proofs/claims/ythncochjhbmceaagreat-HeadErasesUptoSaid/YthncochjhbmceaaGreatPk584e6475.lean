/- A matcher as it lies, and what it fits. No program is walked here. match: Value, Name, Matches, walked. Condition: the texts are no longer than memory. match.New, walked: the matcher, or the error. Condition: the texts are no longer than memory. match: All, walked, over a row of matchers. Condition: the texts are no longer than memory. Whole aggregates of many cells, loaded and stored at once: laws for the walk. No program is walked here. -/
import Derived.Test.YthncochjhbmceaaGreatPke9aa02e7
import Derived.Test.YthncochjhbmceaaGreatPk94e70790
import Derived.Test.YthncochjhbmceaaGreatPk50eaee95
import Derived.Test.YthncochjhbmceaaGreatPkf33574ff
import Derived.Test.YthncochjhbmceaaGreatPkb025935b
import Derived.Deep.WholeRow
namespace Go.Proofs.YthncochjhbmceaaGreat
set_option maxRecDepth 100000
open Go.RowKit

/-- a text's bytes, as numbers -/
def bytesN (v : ByteArray) : List Nat := v.data.toList.map UInt8.toNat
/-- what a matcher that is made so fits, or the error -/
def newF (kind : Int) (name value : ByteArray) : Except Int (ByteArray → Bool) :=
  if kind < 0 ∨ 3 < kind then .error 80 else
  if makeErr [⟨name, ⟨#[120]⟩⟩] ≠ 0 then .error (makeErr [⟨name, ⟨#[120]⟩⟩] : Nat) else
  if kind ≤ 1 then (if 64 < value.size then .error 41 else .ok fun v => decide (v = value) != decide (kind = 1)) else
  match parseP value.data.toList with
  | .bad c => .error (c : Int)
  | .ok t _ => .ok fun v => matT t (bytesN v) != decide (kind = 3)
/-- a func value that fits so, not turned -/
def FitB (w : World) (fv : Value) (F : ByteArray → Bool) : Prop :=
  (∃ bx value, fv = .func (.func 92) #[] #[.pointer (some ⟨bx, 0, none⟩)] ∧ Whole1 w bx 9 #[.string value] ∧ F = fun v => decide (v = value)) ∨
  ∃ nb p t, fv = .func (.func 94) #[] #[.pointer (some ⟨nb, 0, none⟩)] ∧ Whole1 w nb 226 #[.pointer (some ⟨p, 0, none⟩)] ∧ IsTr w p t ∧ F = fun v => matT t (bytesN v)
def FitA (w : World) (fv : Value) (F : ByteArray → Bool) : Prop :=
  FitB w fv F ∨ ∃ tb fv0 F0, fv = .func (.func 146) #[] #[.pointer (some ⟨tb, 0, none⟩)] ∧ Whole1 w tb 223 #[fv0] ∧ FitB w fv0 F0 ∧ F = fun v => !F0 v
/-- THE BLOCK IS A MATCHER of this name that fits so -/
def MatAt (w : World) (M : Nat) (kind : Int) (name value : ByteArray) (F : ByteArray → Bool) : Prop :=
  ∃ fv, Whole1 w M 225 #[.int .i64 kind, .string name, .string value, fv] ∧ FitA w fv F
section
variable {w w' : World}
theorem fitB_on (hb : Below w.heap.size w w') {fv : Value} {F : ByteArray → Bool} (h : FitB w fv F) : FitB w' fv F := by
  rcases h with ⟨bx, value, e, h1, h2⟩ | ⟨nb, p, t, e, h1, h2, h3⟩
  · exact .inl ⟨bx, value, e, h1.below hb h1.lt, h2⟩
  · exact .inr ⟨nb, p, t, e, h1.below hb h1.lt, isTr_on (fun _ _ _ h => h.below hb h.lt) t p h2, h3⟩
theorem fitA_on (hb : Below w.heap.size w w') {fv : Value} {F : ByteArray → Bool} (h : FitA w fv F) : FitA w' fv F := by
  rcases h with h | ⟨tb, fv0, F0, e, h1, h2, h3⟩
  · exact .inl (fitB_on hb h)
  · exact .inr ⟨tb, fv0, F0, e, h1.below hb h1.lt, fitB_on hb h2, h3⟩
theorem MatAt.on {M : Nat} {kind : Int} {name value : ByteArray} {F : ByteArray → Bool} (h : MatAt w M kind name value F) (hb : Below w.heap.size w w') : MatAt w' M kind name value F := by
  obtain ⟨fv, h1, h2⟩ := h
  exact ⟨fv, h1.below hb h1.lt, fitA_on hb h2⟩
end
end Go.Proofs.YthncochjhbmceaaGreat

namespace Go.Proofs.YthncochjhbmceaaGreat
set_option maxRecDepth 100000
open Go.RowKit

theorem fit1_any (bx : Nat) (value v : ByteArray) (w : World) (h1 : Whole1 w bx 9 #[.string value]) :
    Calls Tryz.prog 92 #[.string v, .pointer (some ⟨bx, 0, none⟩)] w fun e w' => e = .returned (.bool (decide (v = value))) ∧ Below w.heap.size w w' := by
  have c0 := h1.cell 0
  have e0 : (v.toList == value.toList) = decide (v = value) := str_eq v value
  clear h1
  obtain ⟨B, hB⟩ : ∃ B, decide (v = value) = B := ⟨_, rfl⟩
  simp only [hB]
  rw [hB] at e0
  clear hB
  go_enter Tryz.func92, Tryz.ntmps92
  go_wp2_with fail
  go_ret
  exact ⟨rfl, Below.refl _ _⟩
theorem fit2_any (nb p : Nat) (t : Tr) (v : ByteArray) (w : World) (h1 : Whole1 w nb 226 #[.pointer (some ⟨p, 0, none⟩)]) (h2 : IsTr w p t) (hv : v.size ≤ 140737488355328) :
    Calls Tryz.prog 94 #[.string v, .pointer (some ⟨nb, 0, none⟩)] w fun e w' => e = .returned (.bool (matT t (bytesN v))) ∧ Below w.heap.size w w' := by
  have c0 := h1.cell 0
  have S1 := hidden (match_any p t v w h2 hv)
  clear h1 h2
  go_enter Tryz.func94, Tryz.ntmps94
  go_wp2_with fail
  refine S1.out.mono ?_
  rintro e w1 ⟨rfl, b1⟩
  go_wp2_with fail
  go_ret
  exact ⟨rfl, b1⟩
set_option maxHeartbeats 1600000 in
theorem turnedv_any (tb : Nat) (fv0 : Value) (F0 : ByteArray → Bool) (v : ByteArray) (w : World) (h1 : Whole1 w tb 223 #[fv0]) (h2 : FitB w fv0 F0) (hv : v.size ≤ 140737488355328) :
    Calls Tryz.prog 146 #[.string v, .pointer (some ⟨tb, 0, none⟩)] w fun e w' => e = .returned (.bool (!F0 v)) ∧ Below w.heap.size w w' := by
  rcases h2 with ⟨bx, value, rfl, k1, rfl⟩ | ⟨nb, p, t, rfl, k1, k2, rfl⟩
  · have S1 := hidden (fit1_any bx value v w k1)
    have c0 := h1.cell 0
    clear h1 k1
    obtain ⟨B, hB⟩ : ∃ B, decide (v = value) = B := ⟨_, rfl⟩
    rw [hB] at S1
    simp only [hB]
    clear hB
    go_enter Tryz.func146, Tryz.ntmps146
    go_wp2_with fail
    refine S1.out.mono ?_
    rintro e w1 ⟨rfl, b1⟩
    go_wp2_with fail
    go_ret
    exact ⟨rfl, b1⟩
  · have S1 := hidden (fit2_any nb p t v w k1 k2 hv)
    have c0 := h1.cell 0
    clear h1 k1 k2
    go_enter Tryz.func146, Tryz.ntmps146
    go_wp2_with fail
    refine S1.out.mono ?_
    rintro e w1 ⟨rfl, b1⟩
    go_wp2_with fail
    go_ret
    exact ⟨rfl, b1⟩
set_option maxHeartbeats 1600000 in
theorem mvalue_any (M : Nat) (kind : Int) (name value : ByteArray) (F : ByteArray → Bool) (v : ByteArray) (w : World) (h : MatAt w M kind name value F) (hv : v.size ≤ 140737488355328) :
    Calls Tryz.prog 99 #[.pointer (some ⟨M, 0, none⟩), .string v] w fun e w' => e = .returned (.bool (F v)) ∧ Below w.heap.size w w' := by
  obtain ⟨fv, h1, h2⟩ := h
  have c3 := h1.cell 3
  clear h1
  rcases h2 with (⟨bx, val, rfl, k1, rfl⟩ | ⟨nb, p, t, rfl, k1, k2, rfl⟩) | ⟨tb, fv0, F0, rfl, k1, k2, rfl⟩
  · have S1 := hidden (fit1_any bx val v w k1)
    clear k1
    obtain ⟨B, hB⟩ : ∃ B, decide (v = val) = B := ⟨_, rfl⟩
    rw [hB] at S1
    simp only [hB]
    clear hB
    go_enter Tryz.func99, Tryz.ntmps99
    go_wp2_with fail
    refine S1.out.mono ?_
    rintro e w1 ⟨rfl, b1⟩
    go_wp2_with fail
    go_ret
    exact ⟨rfl, b1⟩
  · have S1 := hidden (fit2_any nb p t v w k1 k2 hv)
    clear k1 k2
    go_enter Tryz.func99, Tryz.ntmps99
    go_wp2_with fail
    refine S1.out.mono ?_
    rintro e w1 ⟨rfl, b1⟩
    go_wp2_with fail
    go_ret
    exact ⟨rfl, b1⟩
  · have S1 := hidden (turnedv_any tb fv0 F0 v w k1 k2 hv)
    clear k1 k2
    obtain ⟨B, hB⟩ : ∃ B, (!F0 v) = B := ⟨_, rfl⟩
    rw [hB] at S1
    simp only [hB]
    clear hB
    go_enter Tryz.func99, Tryz.ntmps99
    go_wp2_with fail
    refine S1.out.mono ?_
    rintro e w1 ⟨rfl, b1⟩
    go_wp2_with fail
    go_ret
    exact ⟨rfl, b1⟩
theorem mname_any (M : Nat) (kind : Int) (name value : ByteArray) (F : ByteArray → Bool) (w : World) (h : MatAt w M kind name value F) :
    Calls Tryz.prog 101 #[.pointer (some ⟨M, 0, none⟩)] w fun e w' => e = .returned (.string name) ∧ w' = w := by
  obtain ⟨fv, h1, _⟩ := h
  have c1 := h1.cell 1
  clear h1
  go_enter Tryz.func101, Tryz.ntmps101
  go_wp2_with fail
  go_ret
  exact ⟨rfl, rfl⟩
theorem getL_sz {l : List Lbl} {nm : ByteArray} (h : ∀ x ∈ l, x.name.size ≤ 140737488355328 ∧ x.value.size ≤ 140737488355328) : (getL l nm).size ≤ 140737488355328 := by
  induction l with
  | nil => rw [getL]; exact Nat.zero_le _
  | cons x l ih =>
    rw [getL]
    split
    · exact (h x (by simp)).2
    · exact ih fun y hy => h y (by simp [hy])
set_option maxHeartbeats 1600000 in
theorem mmatches_any (M : Nat) (kind : Int) (name value : ByteArray) (F : ByteArray → Bool) (A : Option Addr) (n c : Nat) (l : List Lbl) (w : World) (h : MatAt w M kind name value F) (hl : LbF w A n l) :
    Calls Tryz.prog 59 #[.pointer (some ⟨M, 0, none⟩), .slice A n c] w fun e w' => e = .returned (.bool (F (getL l name))) ∧ Below w.heap.size w w' := by
  have S1 := hidden (mname_any M kind name value F w h)
  have S2 := hidden (lget_any A n c l name w hl)
  have H := hidden h
  have HV := hidden (getL_sz (nm := name) hl.sz)
  clear h hl
  go_enter Tryz.func59, Tryz.ntmps59
  go_wp2_with (first
    | (go_at_call 101; refine S1.out.mono ?_; rintro e w1 ⟨rfl, rfl⟩)
    | (go_at_call 100; refine S2.out.mono ?_; rintro e w2 ⟨rfl, b2⟩; have HB2 := hidden b2; have S3 := hidden (mvalue_any M kind name value F (getL l name) w2 (H.out.on b2) HV.out); clear b2)
    | (go_at_call 99; refine S3.out.mono ?_; rintro e w3 ⟨rfl, b3⟩))
  go_ret
  exact ⟨rfl, HB2.out.trans (b3.mono HB2.out.size)⟩
end Go.Proofs.YthncochjhbmceaaGreat

namespace Go.Proofs.YthncochjhbmceaaGreat
set_option maxRecDepth 100000
open Go.RowKit

/-- what New answers -/
def NewR (w0 w : World) (kind : Int) (name value : ByteArray) (res : Except Int (ByteArray → Bool)) (e : Ending) : Prop :=
  Below w0.heap.size w0 w ∧ match res with
  | .error c => e = .returned (.tuple #[.pointer none, .int .i64 c]) ∧ c ≠ 0
  | .ok F => ∃ M, e = .returned (.tuple #[.pointer (some ⟨M, 0, none⟩), .int .i64 0]) ∧ MatAt w M kind name value F
theorem turned_any (fn : Fn) (a b : Array Value) (w : World) : Calls Tryz.prog 96 #[.func fn a b] w fun e w' => ∃ tb, e = .returned (.func (.func 146) #[] #[.pointer (some ⟨tb, 0, none⟩)]) ∧ Whole1 w' tb 223 #[.func fn a b] ∧ Below w.heap.size w w' := by
  have hmf : ∀ (fn : Fn) (first cap : Array Value) (w : World), (Instr.makeFunc fn first cap).run Tryz.prog w = .ok (.func fn first cap) w := fun _ _ _ _ => rfl
  go_enter Tryz.func96, Tryz.ntmps96
  go_wp2_with fail
  go_ret
  exact ⟨_, rfl, Whole1.new w _ _, (Below.refl _ _).alloc (Nat.le_refl _) _⟩
section
variable {kind : Int} {name value : ByteArray} (h1 : ¬ (kind < 0 ∨ 3 < kind)) (h2 : makeErr [⟨name, ⟨#[120]⟩⟩] = 0)
include h1 h2
theorem newF_long (hk : kind ≤ 1) (hv : 64 < value.size) : newF kind name value = .error 41 := by
  unfold newF
  rw [if_neg h1, if_neg (by rw [h2]; simp), if_pos hk, if_pos hv]
theorem newF_same (hk : kind ≤ 1) (hv : ¬ 64 < value.size) : newF kind name value = .ok fun v => decide (v = value) != decide (kind = 1) := by
  unfold newF
  rw [if_neg h1, if_neg (by rw [h2]; simp), if_pos hk, if_neg hv]
theorem newF_bad (hk : ¬ kind ≤ 1) {c : Nat} (hp : parseP value.data.toList = .bad c) : newF kind name value = .error (c : Int) := by
  unfold newF
  rw [if_neg h1, if_neg (by rw [h2]; simp), if_neg hk, hp]
theorem newF_like (hk : ¬ kind ≤ 1) {t : Tr} {j : Nat} (hp : parseP value.data.toList = .ok t j) : newF kind name value = .ok fun v => matT t (bytesN v) != decide (kind = 3) := by
  unfold newF
  rw [if_neg h1, if_neg (by rw [h2]; simp), if_neg hk, hp]
end

set_option maxHeartbeats 6400000 in
theorem new_any (kind : Int) (name value : ByteArray) (w : World) (hn : name.size ≤ 140737488355328) (hv : value.size ≤ 140737488355328) :
    Calls Tryz.prog 57 #[.int .i64 kind, .string name, .string value] w fun e w' => NewR w w' kind name value (newF kind name value) e := by
  have hmf : ∀ (fn : Fn) (first cap : Array Value) (w : World), (Instr.makeFunc fn first cap).run Tryz.prog w = .ok (.func fn first cap) w := fun _ _ _ _ => rfl
  obtain ⟨bx, hbx⟩ : ∃ bx, bx = w.heap.size := ⟨_, rfl⟩
  obtain ⟨M, hM⟩ : ∃ M, M = bx + 1 := ⟨_, rfl⟩
  obtain ⟨w1, hw1⟩ : ∃ w1, (w.alloc (.cells #[.string value] 9)).alloc (.cells #[.int .i64 kind, .string name, .string value, .nilFunc] 225) = w1 := ⟨_, rfl⟩
  have o1 := (Whole1.new w 9 #[.string value]).alloc (.cells #[.int .i64 kind, .string name, .string value, .nilFunc] 225)
  have o2 := Whole1.new (w.alloc (.cells #[.string value] 9)) 225 #[.int .i64 kind, .string name, .string value, .nilFunc]
  have hb1 : Below w.heap.size w w1 := hw1 ▸ ((Below.refl _ _).alloc (Nat.le_refl _) _).alloc (by simp) _
  rw [hw1] at o1 o2
  rw [World.size_alloc] at o2
  rw [← hbx] at o1 o2
  rw [← hM] at o2
  obtain ⟨RR, hRR⟩ : ∃ RR, newF kind name value = RR := ⟨_, rfl⟩
  have HRR := hidden hRR
  have HX := hidden (And.intro hbx (And.intro hM hw1))
  have H1 := hidden o1
  have H2 := hidden o2
  have HB := hidden hb1
  rw [hRR]
  have n0 : bx < M := by omega
  clear hbx hM hw1 o1 o2 hb1 hRR
  go_enter Tryz.func57, Tryz.ntmps57
  by_cases hk : kind < 0 ∨ 3 < kind
  · have HF := hidden (show RR = .error 80 from by rw [← HRR.out, newF, if_pos hk])
    have hFin := hidden (show NewR w ((w.alloc (.cells #[.string value] 9)).alloc (.cells #[.int .i64 kind, .string name, .string value, .nilFunc] 225)) kind name value RR (.returned (.tuple #[.pointer none, .int .i64 80])) from by
      rw [HX.out.2.2, HF.out]; exact ⟨HB.out, rfl, by decide⟩)
    by_cases hk0 : kind < 0
    · go_wp2_with fail
      go_ret2
      exact hFin.out
    · have hk3 : 3 < kind := by omega
      go_wp2_with fail
      go_ret2
      exact hFin.out
  · have k0 : ¬ kind < 0 := by omega
    have k3 : ¬ 3 < kind := by omega
    have HK := hidden hk
    clear hk
    obtain ⟨q, hq⟩ : ∃ q, q = M + 1 := ⟨_, rfl⟩
    obtain ⟨w2, hw2⟩ : ∃ w2, w1.alloc (.cells #[.string name, .string ⟨#[120]⟩] 70) = w2 := ⟨_, rfl⟩
    have hqs : q = w1.heap.size := by rw [hq, ← HX.out.2.2, HX.out.2.1, HX.out.1]; simp
    have hr2 : Row w2 w2.heap.size 2 (some ⟨q, 0, none⟩) 1 [.string name, .string ⟨#[120]⟩] := by
      have := Row.fresh w1 70 2 1 [.string name, .string ⟨#[120]⟩] rfl
      rw [← hqs] at this
      rw [← hw2]
      exact this.more (by simp; omega)
    have hb2 : Below w1.heap.size w1 w2 := hw2 ▸ (Below.refl _ _).alloc (Nat.le_refl _) _
    have S1 := hidden (lmake_any (some ⟨q, 0, none⟩) 1 1 [⟨name, ⟨#[120]⟩⟩] w2 ⟨hr2, rfl, by decide, fun x hx => by
      simp only [List.mem_singleton] at hx
      subst hx
      exact ⟨hn, show (⟨#[120]⟩ : ByteArray).size ≤ 140737488355328 from by decide⟩⟩ (Nat.le_refl _))
    obtain ⟨me, hme⟩ : ∃ me, makeErr [⟨name, ⟨#[120]⟩⟩] = me := ⟨_, rfl⟩
    rw [hme] at S1
    have HME := hidden hme
    have HY := hidden (And.intro hq hw2)
    have HB2 := hidden hb2
    clear hq hw2 hqs hr2 hb2 hme
    go_wp2_with fail
    rw [← HX.out.1, ← HX.out.2.1, HX.out.2.2, ← HY.out.1, HY.out.2]
    refine S1.out.mono ?_
    rintro e w3 ⟨lv, rfl, _, b3⟩
    have HB3 := hidden (HB2.out.trans (b3.mono HB2.out.size))
    have hbx3 := H1.out.below HB3.out H1.out.lt
    have hM3 := H2.out.below HB3.out H2.out.lt
    have c0 := hbx3.cell 0
    have m3 := hM3.cell 3
    have f3 := hM3.free 3
    have HM3 := hidden hM3
    have HX3 := hidden hbx3
    clear S1 b3 hbx3 hM3
    by_cases hm0 : me = 0
    · subst hm0
      have hsf1 := fun (a : Addr) (c : Array Value) (w : World) => run_store Tryz.prog w a (.func (.func 92) #[] c) .plain rfl
      have hsf2 := fun (a : Addr) (c : Array Value) (w : World) => run_store Tryz.prog w a (.func (.func 94) #[] c) .plain rfl
      have hsf3 := fun (a : Addr) (c : Array Value) (w : World) => run_store Tryz.prog w a (.func (.func 146) #[] c) .plain rfl
      have hMb : M ≠ bx := by omega
      have hwM : w.heap.size ≤ M := by have := HX.out; omega
      have HB03 := hidden (HB.out.trans (HB3.out.mono HB.out.size))
      have hkk : kind = 0 ∨ kind = 1 ∨ kind = 2 ∨ kind = 3 := by omega
      rcases hkk with rfl | rfl | rfl | rfl
      · by_cases hl : 64 < value.size
        · have hli : (64 : Int) < (value.size : Int) := by omega
          have HF := hidden (show NewR w w3 0 name value RR (.returned (.tuple #[.pointer none, .int .i64 41])) from by
            rw [← HRR.out, newF_long HK.out HME.out (by decide) hl]
            exact ⟨HB03.out, rfl, by decide⟩)
          go_wp2_with fail
          go_ret2
          exact HF.out
        · have hli : ¬ (64 : Int) < (value.size : Int) := by omega
          have HN := hidden (newF_same HK.out HME.out (by decide) hl)
          have hm4 := HM3.out.put 3 (.func (.func 92) #[] #[.pointer (some ⟨bx, 0, none⟩)])
          have hx4 := HX3.out.off (p := ⟨M, 3, none⟩) (fun e => hMb e.symm) (.func (.func 92) #[] #[.pointer (some ⟨bx, 0, none⟩)])
          have hb4 : Below w.heap.size w (w3.setCell ⟨M, 3, none⟩ (.func (.func 92) #[] #[.pointer (some ⟨bx, 0, none⟩)])) := HB03.out.setCell (p := ⟨M, 3, none⟩) hwM _
          have HF := hidden (show NewR w (w3.setCell ⟨M, 3, none⟩ (.func (.func 92) #[] #[.pointer (some ⟨bx, 0, none⟩)])) 0 name value RR (.returned (.tuple #[.pointer (some ⟨M, 0, none⟩), .int .i64 0])) from by
            rw [← HRR.out, HN.out]
            exact ⟨hb4, M, rfl, _, hm4, .inl (.inl ⟨bx, value, rfl, hx4, by funext v; simp⟩)⟩)
          clear hm4 hx4 hb4
          go_wp2_with fail
          go_ret2
          exact HF.out
      · by_cases hl : 64 < value.size
        · have hli : (64 : Int) < (value.size : Int) := by omega
          have HF := hidden (show NewR w w3 1 name value RR (.returned (.tuple #[.pointer none, .int .i64 41])) from by
            rw [← HRR.out, newF_long HK.out HME.out (by decide) hl]
            exact ⟨HB03.out, rfl, by decide⟩)
          go_wp2_with fail
          go_ret2
          exact HF.out
        · have hli : ¬ (64 : Int) < (value.size : Int) := by omega
          have HN := hidden (newF_same HK.out HME.out (by decide) hl)
          have hm4 := HM3.out.put 3 (.func (.func 92) #[] #[.pointer (some ⟨bx, 0, none⟩)])
          have hx4 := HX3.out.off (p := ⟨M, 3, none⟩) (fun e => hMb e.symm) (.func (.func 92) #[] #[.pointer (some ⟨bx, 0, none⟩)])
          have hb4 : Below w.heap.size w (w3.setCell ⟨M, 3, none⟩ (.func (.func 92) #[] #[.pointer (some ⟨bx, 0, none⟩)])) := HB03.out.setCell (p := ⟨M, 3, none⟩) hwM _
          have k3 := hm4.cell 3
          have HM4 := hidden hm4
          have HX4 := hidden hx4
          have HB4 := hidden hb4
          clear hm4 hx4 hb4
          go_wp2_with fail
          refine (turned_any _ _ _ _).mono ?_
          rintro e w5 ⟨tb, rfl, ht5, hb5⟩
          have hm5 := HM4.out.below hb5 HM4.out.lt
          have hx5 := HX4.out.below hb5 HX4.out.lt
          have hMt : M ≠ tb := kinds_apart hm5 ht5 (by decide)
          have j3 := hm5.cell 3
          have g3 := hm5.free 3
          have HF := hidden (show NewR w (w5.setCell ⟨M, 3, none⟩ (.func (.func 146) #[] #[.pointer (some ⟨tb, 0, none⟩)])) 1 name value RR (.returned (.tuple #[.pointer (some ⟨M, 0, none⟩), .int .i64 0])) from by
            rw [← HRR.out, HN.out]
            exact ⟨(HB4.out.trans (hb5.mono HB4.out.size)).setCell (p := ⟨M, 3, none⟩) hwM _, M, rfl, _, hm5.put 3 _, .inr ⟨tb, _, _, rfl, ht5.off (p := ⟨M, 3, none⟩) (fun e => hMt e.symm) _, .inl ⟨bx, value, rfl, hx5.off (p := ⟨M, 3, none⟩) (fun e => hMb e.symm) _, rfl⟩, by funext v; simp⟩⟩)
          clear hm5 hx5 ht5
          go_wp2_with fail
          go_ret2
          exact HF.out
      · have S2 := hidden (parse_any value w3 hv)
        obtain ⟨PP, hPP⟩ : ∃ PP, parseP value.data.toList = PP := ⟨_, rfl⟩
        have hnz := nz_parse value.data.toList
        rw [hPP] at S2 hnz
        have HPP := hidden hPP
        clear hPP
        go_wp2_with fail
        refine S2.out.mono ?_
        rintro e w4 ⟨hb4, hy⟩
        have HB4 := hidden (HB03.out.trans (hb4.mono HB03.out.size))
        have HM4 := hidden (HM3.out.below hb4 HM3.out.lt)
        cases PP with
        | bad c =>
          have hc0 : c ≠ 0 := hnz c rfl
          have hci : ((c : Int) != 0) = true := by simp; omega
          have hci2 : ¬ (c : Int) = 0 := by omega
          obtain rfl : e = .returned (.tuple #[.pointer none, .int .i64 (c : Int)]) := hy
          have HF := hidden (show NewR w (w4.alloc (.cells #[.pointer none] 226)) 2 name value RR (.returned (.tuple #[.pointer none, .int .i64 (c : Int)])) from by
            rw [← HRR.out, newF_bad HK.out HME.out (by decide) HPP.out]
            exact ⟨HB4.out.alloc HB4.out.size _, rfl, by omega⟩)
          clear hnz S2
          go_wp2_with fail
          go_ret2
          exact HF.out
        | ok t j =>
          obtain ⟨p, rfl, ht4⟩ := hy
          have HN := hidden (newF_like HK.out HME.out (by decide) HPP.out)
          obtain ⟨nb, hnb⟩ : ∃ nb, nb = w4.heap.size := ⟨_, rfl⟩
          obtain ⟨w5, hw5⟩ : ∃ w5, w4.alloc (.cells #[.pointer (some ⟨p, 0, none⟩)] 226) = w5 := ⟨_, rfl⟩
          have hn5 : Whole1 w5 nb 226 #[.pointer (some ⟨p, 0, none⟩)] := by rw [hnb, ← hw5]; exact Whole1.new _ _ _
          have hb5 : Below w4.heap.size w4 w5 := hw5 ▸ (Below.refl _ _).alloc (Nat.le_refl _) _
          have ht5 := isTr_nodes (below_nodes hb5) t p ht4
          have hm5 := HM4.out.below hb5 HM4.out.lt
          have HB5 := hidden (HB4.out.trans (hb5.mono HB4.out.size))
          have j3 := hm5.cell 3
          have g3 := hm5.free 3
          have HW5 := hidden (And.intro hnb hw5)
          rw [← hw5] at j3 g3
          have hMn : M ≠ nb := kinds_apart hm5 hn5 (by decide)
          have hm6 := hm5.put 3 (.func (.func 94) #[] #[.pointer (some ⟨nb, 0, none⟩)])
          have hn6 := hn5.off (p := ⟨M, 3, none⟩) (fun e => hMn e.symm) (.func (.func 94) #[] #[.pointer (some ⟨nb, 0, none⟩)])
          have ht6 : IsTr (w5.setCell ⟨M, 3, none⟩ (.func (.func 94) #[] #[.pointer (some ⟨nb, 0, none⟩)])) p t := isTr_nodes (fun g u cs hu hw => hw.off (p := ⟨M, 3, none⟩) (fun e => by
            have e : g = M := e
            refine kinds_apart hw hm5 ?_ e
            rcases hu with rfl | rfl <;> decide) _) t p ht5
          have hb6 : Below w.heap.size w (w5.setCell ⟨M, 3, none⟩ (.func (.func 94) #[] #[.pointer (some ⟨nb, 0, none⟩)])) := HB5.out.setCell (p := ⟨M, 3, none⟩) hwM _
          have HF := hidden (show NewR w (w5.setCell ⟨M, 3, none⟩ (.func (.func 94) #[] #[.pointer (some ⟨nb, 0, none⟩)])) 2 name value RR (.returned (.tuple #[.pointer (some ⟨M, 0, none⟩), .int .i64 0])) from by
            rw [← HRR.out, HN.out]
            exact ⟨hb6, M, rfl, _, hm6, .inl (.inr ⟨nb, p, t, rfl, hn6, ht6, by funext v; simp⟩)⟩)
          have HF2 := hidden (show NewR w ((w4.alloc (.cells #[.pointer (some ⟨p, 0, none⟩)] 226)).setCell ⟨M, 3, none⟩ (.func (.func 94) #[] #[.pointer (some ⟨w4.heap.size, 0, none⟩)])) 2 name value RR (.returned (.tuple #[.pointer (some ⟨M, 0, none⟩), .int .i64 0])) from by
            rw [HW5.out.2, ← HW5.out.1]; exact HF.out)
          clear hm5 hn5 ht5 ht4 hm6 hn6 ht6 hb6 hnz S2 hnb hw5
          go_wp2_with fail
          go_ret2
          exact HF2.out
      · have S2 := hidden (parse_any value w3 hv)
        obtain ⟨PP, hPP⟩ : ∃ PP, parseP value.data.toList = PP := ⟨_, rfl⟩
        have hnz := nz_parse value.data.toList
        rw [hPP] at S2 hnz
        have HPP := hidden hPP
        clear hPP
        go_wp2_with fail
        refine S2.out.mono ?_
        rintro e w4 ⟨hb4, hy⟩
        have HB4 := hidden (HB03.out.trans (hb4.mono HB03.out.size))
        have HM4 := hidden (HM3.out.below hb4 HM3.out.lt)
        cases PP with
        | bad c =>
          have hc0 : c ≠ 0 := hnz c rfl
          have hci : ((c : Int) != 0) = true := by simp; omega
          have hci2 : ¬ (c : Int) = 0 := by omega
          obtain rfl : e = .returned (.tuple #[.pointer none, .int .i64 (c : Int)]) := hy
          have HF := hidden (show NewR w (w4.alloc (.cells #[.pointer none] 226)) 3 name value RR (.returned (.tuple #[.pointer none, .int .i64 (c : Int)])) from by
            rw [← HRR.out, newF_bad HK.out HME.out (by decide) HPP.out]
            exact ⟨HB4.out.alloc HB4.out.size _, rfl, by omega⟩)
          clear hnz S2
          go_wp2_with fail
          go_ret2
          exact HF.out
        | ok t j =>
          obtain ⟨p, rfl, ht4⟩ := hy
          have HN := hidden (newF_like HK.out HME.out (by decide) HPP.out)
          obtain ⟨nb, hnb⟩ : ∃ nb, nb = w4.heap.size := ⟨_, rfl⟩
          obtain ⟨w5, hw5⟩ : ∃ w5, w4.alloc (.cells #[.pointer (some ⟨p, 0, none⟩)] 226) = w5 := ⟨_, rfl⟩
          have hn5 : Whole1 w5 nb 226 #[.pointer (some ⟨p, 0, none⟩)] := by rw [hnb, ← hw5]; exact Whole1.new _ _ _
          have hb5 : Below w4.heap.size w4 w5 := hw5 ▸ (Below.refl _ _).alloc (Nat.le_refl _) _
          have ht5 := isTr_nodes (below_nodes hb5) t p ht4
          have hm5 := HM4.out.below hb5 HM4.out.lt
          have HB5 := hidden (HB4.out.trans (hb5.mono HB4.out.size))
          have j3 := hm5.cell 3
          have g3 := hm5.free 3
          have HW5 := hidden (And.intro hnb hw5)
          rw [← hw5] at j3 g3
          have hMn : M ≠ nb := kinds_apart hm5 hn5 (by decide)
          have hm6 := hm5.put 3 (.func (.func 94) #[] #[.pointer (some ⟨nb, 0, none⟩)])
          have hn6 := hn5.off (p := ⟨M, 3, none⟩) (fun e => hMn e.symm) (.func (.func 94) #[] #[.pointer (some ⟨nb, 0, none⟩)])
          have ht6 : IsTr (w5.setCell ⟨M, 3, none⟩ (.func (.func 94) #[] #[.pointer (some ⟨nb, 0, none⟩)])) p t := isTr_nodes (fun g u cs hu hw => hw.off (p := ⟨M, 3, none⟩) (fun e => by
            have e : g = M := e
            refine kinds_apart hw hm5 ?_ e
            rcases hu with rfl | rfl <;> decide) _) t p ht5
          have hb6 : Below w.heap.size w (w5.setCell ⟨M, 3, none⟩ (.func (.func 94) #[] #[.pointer (some ⟨nb, 0, none⟩)])) := HB5.out.setCell (p := ⟨M, 3, none⟩) hwM _
          have k3 := hm6.cell 3
          rw [← hw5, hnb] at k3
          have HM6 := hidden hm6
          have HN6 := hidden hn6
          have HT6 := hidden ht6
          have HB6 := hidden hb6
          clear hm5 hn5 ht5 ht4 hm6 hn6 ht6 hb6 hnz S2 hnb hw5
          go_wp2_with fail
          rw [HW5.out.2, ← HW5.out.1]
          refine (turned_any _ _ _ _).mono ?_
          rintro e w7 ⟨tb, rfl, ht7, hb7⟩
          have hm7 := HM6.out.below hb7 HM6.out.lt
          have hn7 := HN6.out.below hb7 HN6.out.lt
          have hMt : M ≠ tb := kinds_apart hm7 ht7 (by decide)
          have i3 := hm7.cell 3
          have e3 := hm7.free 3
          have HF := hidden (show NewR w (w7.setCell ⟨M, 3, none⟩ (.func (.func 146) #[] #[.pointer (some ⟨tb, 0, none⟩)])) 3 name value RR (.returned (.tuple #[.pointer (some ⟨M, 0, none⟩), .int .i64 0])) from by
            rw [← HRR.out, HN.out]
            refine ⟨(HB6.out.trans (hb7.mono HB6.out.size)).setCell (p := ⟨M, 3, none⟩) hwM _, M, rfl, _, hm7.put 3 _, .inr ⟨tb, _, _, rfl, ht7.off (p := ⟨M, 3, none⟩) (fun e => hMt e.symm) _, .inr ⟨nb, p, t, rfl, hn7.off (p := ⟨M, 3, none⟩) (fun e => hMn e.symm) _, ?_, rfl⟩, by funext v; simp⟩⟩
            exact isTr_nodes (fun g u cs hu hw => hw.off (p := ⟨M, 3, none⟩) (fun e => by
              have e : g = M := e
              refine kinds_apart hw hm7 ?_ e
              rcases hu with rfl | rfl <;> decide) _) t p (isTr_nodes (below_nodes hb7) t p HT6.out))
          clear hm7 hn7 ht7
          go_wp2_with fail
          go_ret2
          exact HF.out
    · have hmi : ((me : Int) != 0) = true := by simp; omega
      have hme2 : ¬ (me : Int) = 0 := by omega
      have HF := hidden (show NewR w w3 kind name value RR (.returned (.tuple #[.pointer none, .int .i64 (me : Int)])) from by
        rw [← HRR.out, newF, if_neg HK.out, if_pos (by rw [HME.out]; exact hm0), HME.out]
        exact ⟨HB.out.trans (HB3.out.mono HB.out.size), rfl, by omega⟩)
      go_wp2_with fail
      go_ret2
      exact HF.out
end Go.Proofs.YthncochjhbmceaaGreat

namespace Go.Proofs.YthncochjhbmceaaGreat
set_option maxRecDepth 100000
open Go.RowKit

/-- a matcher among others -/
structure Mt where
  M : Nat
  kind : Int
  name : ByteArray
  value : ByteArray
  F : ByteArray → Bool
def Mt.ptr (x : Mt) : Value := .pointer (some ⟨x.M, 0, none⟩)
/-- matchers as they lie -/
structure MtRow (w : World) (A : Option Addr) (n : Nat) (ms : List Mt) : Prop where
  row : Row w w.heap.size 1 A n (ms.map Mt.ptr)
  len : ms.length = n
  each : ∀ x ∈ ms, MatAt w x.M x.kind x.name x.value x.F
theorem MtRow.on {w w' : World} {A : Option Addr} {n : Nat} {ms : List Mt} (h : MtRow w A n ms) (hb : Below w.heap.size w w') : MtRow w' A n ms :=
  ⟨(h.row.below hb).more hb.size, h.len, fun x hx => (h.each x hx).on hb⟩
theorem mt_cell {w : World} {A : Option Addr} {n : Nat} {ms : List Mt} (h : MtRow w A n ms) {k : Nat} (hk : k < n) : ∃ g o x, A = some ⟨g, o, none⟩ ∧ g < w.heap.size ∧ ms[k]? = some x ∧ w.cell? ⟨g, o + k, none⟩ = some (.pointer (some ⟨x.M, 0, none⟩)) ∧ MatAt w x.M x.kind x.name x.value x.F := by
  have hl := h.len
  obtain ⟨g, o, e, hb, hc⟩ := h.row.at_ (by omega)
  obtain ⟨x, hx⟩ : ∃ x, ms[k]? = some x := ⟨_, List.getElem?_eq_getElem (by omega)⟩
  refine ⟨g, o, x, e, hb, hx, ?_, h.each x (List.mem_of_getElem? hx)⟩
  have := hc k (by omega)
  rw [this, List.getElem?_map, hx]
  rfl
/-- do these labels fit all? -/
def allM (l : List Lbl) (ms : List Mt) : Bool := ms.all fun x => x.F (getL l x.name)

set_option maxHeartbeats 3200000 in
theorem mall_any (A B : Option Addr) (n c m d : Nat) (l : List Lbl) (ms : List Mt) (w : World) (hl : LbF w A n l) (h : MtRow w B m ms) (hm : m ≤ 17592186044416) :
    Calls Tryz.prog 22 #[.slice A n c, .slice B m d] w fun e w' => e = .returned (.bool (allM l ms)) ∧ Below w.heap.size w w' := by
  have HL := hidden hl
  have H := hidden h
  obtain ⟨R, hR⟩ : ∃ R, allM l ms = R := ⟨_, rfl⟩
  rw [hR]
  have HR := hidden hR
  clear hl h hR
  go_enter Tryz.func22, Tryz.ntmps22
  go_wp2_with fail
  go_loopw [9] (fun vi wr => ∃ k : Nat, vi = .int .i64 k ∧ k ≤ m ∧ Hid (Below w.heap.size w wr) ∧ Hid (allM l (ms.drop k) = R)) (fun vi _ => m - (intOf vi).toNat)
  case atStart => exact ⟨0, rfl, Nat.zero_le _, Below.refl _ _, hidden (by rw [List.drop_zero]; exact HR.out)⟩
  case round =>
    obtain ⟨k, rfl, hk, hb, hd⟩ := hrel
    have k0 : (0 : Int) ≤ (k : Int) := by omega
    by_cases hlt : k < m
    · have k1 : (k : Int) < (m : Int) := by omega
      obtain ⟨g, o, x, rfl, hg, hx, hc, hM⟩ := mt_cell (H.out.on hb.out) hlt
      have S1 := hidden (mmatches_any x.M x.kind x.name x.value x.F A n c l wr hM (HL.out.on hb.out))
      have hdx : ms.drop k = x :: ms.drop (k + 1) := by
        obtain ⟨hi, e⟩ := List.getElem?_eq_some_iff.1 hx
        rw [List.drop_eq_getElem_cons hi, e]
      have HD := hidden (show (x.F (getL l x.name) && allM l (ms.drop (k + 1))) = R from by rw [← hd.out, hdx]; rfl)
      have fwk : IntKind.i64.wrap ((k : Int) + 1) = (k : Int) + 1 := Go.IntWalk.i64_in _ (by omega)
      clear hx hM hdx hd
      go_wp2_with fail
      refine S1.out.mono ?_
      rintro e w2 ⟨rfl, b2⟩
      have HB2 := hidden (hb.out.trans (b2.mono hb.out.size))
      cases hf : x.F (getL l x.name) with
      | true =>
        have HD2 := hidden (show allM l (ms.drop (k + 1)) = R from by rw [← HD.out, hf]; rfl)
        clear hf
        go_wp2_with fail
        go_roundw
        case rel => exact ⟨k + 1, by go_num, by omega, HB2, HD2⟩
        case measure => simp [intOf]; omega
      | false =>
        have HD2 := hidden (show R = false from by rw [← HD.out, hf]; rfl)
        clear hf
        go_wp2_with fail
        go_ret
        rw [HD2.out]
        exact ⟨rfl, HB2.out⟩
    · obtain rfl : k = m := by omega
      have HD2 := hidden (show R = true from by rw [← hd.out, List.drop_of_length_le (by rw [H.out.len]; exact Nat.le_refl _)]; rfl)
      go_wp2_with fail
      go_ret
      rw [HD2.out]
      exact ⟨rfl, hb.out⟩
end Go.Proofs.YthncochjhbmceaaGreat

namespace Go.Proofs.YthncochjhbmceaaGreat
set_option maxRecDepth 100000
open Go.RowKit

section
variable {P : Program} {w w' : World} {ops : Array Oper} {rest : List Oper} {o : Oper} {a : Act} {Q : Exit → Act → World → Prop} {K : Act → World → Prop} {E : Prop}
theorem run_loadCells_whole {g : Nat} {t : TypeId} {c : Array Value} (hw : Whole1 w g t c) : (loadCells ⟨g, 0, none⟩ c.size).run P w = .ok c w := by
  have := run_loadCells_list (P := P) w ⟨g, 0, none⟩ c.toList (fun j v hv => by
    have hadd : (⟨g, 0, none⟩ : Addr).add j = ⟨g, j, none⟩ := by unfold Addr.add; split <;> simp_all
    rw [hadd, hw.cell]
    simpa using hv)
  simpa using this
theorem run_loadW {g : Nat} {t u : TypeId} {c : Array Value} {n : Nat} (ha : ∀ w, (isAgg t).run P w = .ok true w) (hz : ∀ w, (Go.sizeOf t).run P w = .ok n w) (hw : Whole1 w g u c) (hn : c.size = n) :
    (Instr.loadAt t (.pointer (some ⟨g, 0, none⟩))).run P w = .ok (.agg c) w := by
  subst hn
  simp only [Instr.loadAt, Instr.sureAddr, Sem.run_bind, Sem.run_pure, Result.andThen]
  simp [loadVar, ha, hz, run_loadCells_whole hw, Result.andThen]
theorem wpList_loadW (hg : o.guard = none) (x : Operand) (t : TypeId) (hop : o.op = .load t x) (p : Value) (hx : a.eval x = p) (v : Value) (hl : (Instr.loadAt t p).run P w = .ok v w) (hK : wpList P ops Q rest (a.put o.dst v) w) : wpList P ops Q (o :: rest) a w := by
  refine wpList_plain hg fun K' hK' => ?_
  unfold Oper.wp
  simp [execOp, hop, hx, hl, Result.andThen]
  exact hK' _ _ hK
end
theorem fold_at : ∀ (l : List Value) (k : Nat) (arr : Array Value) (j : Nat), ((l.zipIdx k).foldl (fun cs x => cs.setIfInBounds x.2 x.1) arr)[j]? = if j < arr.size then (if k ≤ j ∧ j < k + l.length then l[j - k]? else arr[j]?) else none
  | [], k, arr, j => by
    rw [List.zipIdx_nil, List.foldl_nil]
    split
    · rw [if_neg (by simp)]
    · rename_i h; exact Array.getElem?_eq_none (by omega)
  | x :: l, k, arr, j => by
    rw [List.zipIdx_cons, List.foldl_cons, fold_at l (k + 1) (arr.setIfInBounds k x) j, Array.size_setIfInBounds]
    split
    · rename_i h
      by_cases h1 : k = j
      · subst h1
        rw [if_neg (by omega), if_pos (by simp)]
        simp [h]
      · rw [Array.getElem?_setIfInBounds, if_neg h1]
        by_cases h2 : k ≤ j ∧ j < k + (x :: l).length
        · rw [if_pos h2, if_pos (by simp at h2; omega), show j - k = (j - (k + 1)) + 1 from by omega, List.getElem?_cons_succ]
        · rw [if_neg h2, if_neg (by simp at h2; omega)]
    · rfl
/-- cells laid one by one over others are these cells -/
theorem fold_all (cs0 cs : Array Value) (h : cs0.size = cs.size) : Array.foldl (fun cs x => cs.setIfInBounds x.snd x.fst) cs0 cs.zipIdx 0 cs.size = cs := by
  have h1 : cs.size = cs.zipIdx.size := by simp
  conv => lhs; arg 5; rw [h1]
  rw [← Array.foldl_toList, Array.toList_zipIdx]
  apply Array.ext_getElem?
  intro j
  rw [fold_at]
  split
  · rename_i h2
    rw [if_pos (by simp; omega), Nat.sub_zero, Array.getElem?_toList]
  · rename_i h2
    exact (Array.getElem?_eq_none (by omega)).symm
end Go.Proofs.YthncochjhbmceaaGreat
