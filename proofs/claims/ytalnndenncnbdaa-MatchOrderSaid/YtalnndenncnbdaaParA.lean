/- The pattern's reader: peek, must, escaped, letter, walked. Condition: the pattern is no longer than memory. -/
import Derived.Test.YtalnndenncnbdaaTrM
namespace Go.Proofs.Ytalnndenncnbdaa
set_option maxRecDepth 100000
open Go.RowKit

/-- the reader, as it lies -/
structure Rd (w : World) (r : Nat) (S : ByteArray) (i d : Nat) : Prop where
  blk : Whole1 w r 63 #[.string S, .int .i64 (i : Int), .int .i64 (d : Int)]
  in_ : i ≤ S.size
  fit : S.size ≤ 140737488355328
  deep : d ≤ 16
/-- only the reader, and what is new, may have turned -/
abbrev Kr (r : Nat) (w w' : World) : Prop := Kp (fun k => k = r) w w'
theorem Rd.cells {w : World} {r i d : Nat} {S : ByteArray} (h : Rd w r S i d) : w.cell? ⟨r, 0, none⟩ = some (.string S) ∧ w.cell? ⟨r, 1, none⟩ = some (.int .i64 (i : Int)) ∧ w.cell? ⟨r, 2, none⟩ = some (.int .i64 (d : Int)) ∧ w.frozen? ⟨r, 1, none⟩ = false ∧ w.frozen? ⟨r, 2, none⟩ = false :=
  ⟨h.blk.cell 0, h.blk.cell 1, h.blk.cell 2, h.blk.free 1, h.blk.free 2⟩
theorem Rd.keep {w w' : World} {r i d : Nat} {S : ByteArray} {F : Nat → Prop} (h : Rd w r S i d) (k : Kp F w w') (hF : ¬ F r) : Rd w' r S i d := ⟨(k.block r h.blk.lt hF).trans h.blk, h.in_, h.fit, h.deep⟩
theorem Rd.drewN {w : World} {r i d : Nat} {S : ByteArray} (h : Rd w r S i d) (n : Nat) : Rd (w.drewN n) r S i d := h.keep ((Kp.refl (fun _ => False) w).drewN n) id
theorem Rd.put1 {w : World} {r i d : Nat} {S : ByteArray} (h : Rd w r S i d) {j : Nat} (hj : j ≤ S.size) : Rd (w.setCell ⟨r, 1, none⟩ (.int .i64 (j : Int))) r S j d := ⟨h.blk.put 1 _, hj, h.fit, h.deep⟩
theorem Rd.put2 {w : World} {r i d : Nat} {S : ByteArray} (h : Rd w r S i d) {j : Nat} (hj : j ≤ 16) : Rd (w.setCell ⟨r, 2, none⟩ (.int .i64 (j : Int))) r S i j := ⟨h.blk.put 2 _, h.in_, h.fit, hj⟩
theorem Kr.put {w w' : World} {r i : Nat} (h : Kr r w w') (v : Value) : Kr r w (w'.setCell ⟨r, i, none⟩ v) := Kp.put h rfl i v
/-- it leaves by a panic with this number -/
def Bad (c : Nat) (e : Ending) : Prop := e = .panicked [{ v := .iface 26 (.int .i64 (c : Int)), recovered := false }]
/-- it answers the byte, and the reader stands behind it; or it leaves by a panic -/
def YieldB (r : Nat) (S : ByteArray) (d : Nat) (w : World) (res : PR Nat) (e : Ending) (w' : World) : Prop :=
  Kr r w w' ∧ match res with
  | .bad c => Bad c e
  | .ok n j => e = .returned (.int .u8 (n : Int)) ∧ Rd w' r S j d ∧ n < 256
/-- the byte that peek tells -/
def peekN (S : ByteArray) (i : Nat) : Nat := if i < S.size then byteN S.data.toList i else 0
theorem byteN_at {S : ByteArray} {i : Nat} (h : i < S.size) : byteN S.data.toList i = (S[i]'h).toNat := by
  rw [byteN, List.getElem?_eq_getElem (show i < S.data.toList.length from h)]; rfl
theorem byteN_lt (s : List UInt8) (i : Nat) : byteN s i < 256 := UInt8.toNat_lt _

set_option maxHeartbeats 1600000 in
theorem peek_any (r i d : Nat) (S : ByteArray) (w : World) (h : Rd w r S i d) :
    Calls Try.prog 41 #[.pointer (some ⟨r, 0, none⟩)] w fun e w' => e = .returned (.tuple #[.int .u8 (peekN S i : Nat), .bool (decide (i < S.size))]) ∧ Kp (fun _ => False) w w' := by
  obtain ⟨c0, c1, c2, _⟩ := h.cells
  have hin := h.in_
  by_cases hlt : i < S.size
  · have hne : ((i : Int) == (S.size : Int)) = false := by simp; omega
    have i0 : (0 : Int) ≤ (i : Int) := by omega
    have i1 : (i : Int) < (S.size : Int) := by omega
    have hb : peekN S i = (S[i]'hlt).toNat := by rw [peekN, if_pos hlt, byteN_at hlt]
    rw [hb, decide_eq_true hlt]
    clear h hb
    go_enter Try.func41, Try.ntmps41
    go_wp2_with fail
    go_quiet (fail)
    go_wp2_with fail
    go_quiet (fail)
    go_wp2_with fail
    go_ret2
    exact ⟨rfl, ((Kp.refl _ _).drewN _).drewN _⟩
  · obtain rfl : i = S.size := by omega
    have hne : ((S.size : Int) == (S.size : Int)) = true := by simp
    have hb : peekN S S.size = 0 := by rw [peekN, if_neg hlt]
    rw [hb, decide_eq_false hlt]
    clear h hb
    go_enter Try.func41, Try.ntmps41
    go_wp2_with fail
    go_quiet (fail)
    go_wp2_with fail
    go_ret2
    exact ⟨rfl, (Kp.refl _ _).drewN _⟩

theorem must_yes (v : Value) (c : Int) (w : World) : Calls Try.prog 57 #[v, .bool true, .int .i64 c] w fun e w' => e = .returned (.tuple #[]) ∧ w' = w := by
  go_enter Try.func57, Try.ntmps57
  go_wp2_with fail
  go_end0
  exact ⟨rfl, rfl⟩
theorem must_no (v : Value) (c : Nat) (w : World) : Calls Try.prog 57 #[v, .bool false, .int .i64 (c : Int)] w fun e w' => Bad c e ∧ w' = w := by
  go_enter Try.func57, Try.ntmps57
  go_wp2_with fail
  exact ⟨rfl, rfl, rfl⟩

set_option maxHeartbeats 1600000 in
theorem escaped_any (r i d : Nat) (S : ByteArray) (w : World) (h : Rd w r S i d) :
    Calls Try.prog 72 #[.pointer (some ⟨r, 0, none⟩)] w (YieldB r S d w (escP S.data.toList i)) := by
  have S1 := hidden (peek_any r i d S w h)
  have H := hidden h
  by_cases hlt : i < S.size
  · have eP : escP S.data.toList i = .ok (byteN S.data.toList i) (i + 1) := if_pos hlt
    have eK : peekN S i = byteN S.data.toList i := if_pos hlt
    rw [eP]
    rw [eK, decide_eq_true hlt] at S1
    have hb := byteN_lt S.data.toList i
    clear eP eK h
    generalize byteN S.data.toList i = b at *
    go_enter Try.func72, Try.ntmps72
    go_wp2_with fail
    refine S1.out.mono ?_
    rintro e w1 ⟨rfl, k1⟩
    have h1 := H.out.keep k1 id
    obtain ⟨c0, c1, c2, f1, f2⟩ := h1.cells
    have fw : IntKind.i64.wrap ((i : Int) + 1) = (i : Int) + 1 := Go.IntWalk.i64_in _ (by have := h1.fit; omega)
    clear S1
    go_wp2_with (first | (go_at_call 57; refine (must_yes _ _ _).mono ?_; rintro e w2 ⟨rfl, rfl⟩))
    go_ret
    exact ⟨Kr.put (k1.wider fun _ h => h.elim) _, rfl, h1.put1 (j := i + 1) (by omega), hb⟩
  · have eP : escP S.data.toList i = .bad 65 := if_neg hlt
    rw [eP]
    rw [decide_eq_false hlt] at S1
    clear eP h
    go_enter Try.func72, Try.ntmps72
    go_wp2_with fail
    refine S1.out.mono ?_
    rintro e w1 ⟨rfl, k1⟩
    clear S1
    go_wp2_with (first | (go_at_call 57; refine (must_no _ 65 _).mono ?_; rintro e w2 ⟨rfl, rfl⟩))
    exact ⟨rfl, k1.wider fun _ h => h.elim, rfl⟩

set_option maxHeartbeats 1600000 in
theorem letter_any (r i d : Nat) (S : ByteArray) (w : World) (h : Rd w r S i d) :
    Calls Try.prog 73 #[.pointer (some ⟨r, 0, none⟩)] w (YieldB r S d w (letP S.data.toList i)) := by
  have S1 := hidden (peek_any r i d S w h)
  have H := hidden h
  by_cases hlt : i < S.size
  · have eP : letP S.data.toList i = if byteN S.data.toList i = 92 then escP S.data.toList (i + 1) else .ok (byteN S.data.toList i) (i + 1) := if_pos hlt
    have eK : peekN S i = byteN S.data.toList i := if_pos hlt
    rw [eP]
    rw [eK, decide_eq_true hlt] at S1
    have hb := byteN_lt S.data.toList i
    clear eP eK h
    generalize byteN S.data.toList i = b at *
    obtain ⟨RR, hRR⟩ : ∃ RR, (if b = 92 then escP S.data.toList (i + 1) else .ok b (i + 1)) = RR := ⟨_, rfl⟩
    rw [hRR]
    have HRR := hidden hRR
    clear hRR
    go_enter Try.func73, Try.ntmps73
    go_wp2_with fail
    refine S1.out.mono ?_
    rintro e w1 ⟨rfl, k1⟩
    have h1 := H.out.keep k1 id
    obtain ⟨c0, c1, c2, f1, f2⟩ := h1.cells
    have fw : IntKind.i64.wrap ((i : Int) + 1) = (i : Int) + 1 := Go.IntWalk.i64_in _ (by have := h1.fit; omega)
    have h2 := hidden (h1.put1 (j := i + 1) (by omega))
    have k2 := hidden (Kr.put (i := 1) (k1.wider (G := fun k => k = r) fun _ h => h.elim) (.int .i64 ((i + 1 : Nat) : Int)))
    have e1 : ((i + 1 : Nat) : Int) = (i : Int) + 1 := by omega
    rw [e1] at h2 k2
    have h3 := hidden (show Rd (w1.setCell ⟨r, 1, none⟩ (.int .i64 ((i : Int) + 1))) r S (i + 1) d from ⟨by have := h2.out.blk; rwa [e1] at this, h2.out.in_, h2.out.fit, h2.out.deep⟩)
    have S2 := hidden (escaped_any r (i + 1) d S _ h3.out)
    clear S1 h1 h2 e1
    by_cases hb92 : b = 92
    · subst hb92
      rw [if_pos rfl] at HRR
      go_wp2_with (first | (go_at_call 57; refine (must_yes _ _ _).mono ?_; rintro e w2 ⟨rfl, rfl⟩))
      refine S2.out.mono ?_
      rintro e w4 ⟨k4, hy⟩
      rw [HRR.out] at hy
      have k5 : Kr r w w4 := k2.out.trans k4
      cases RR with
      | bad c =>
        have hy : Bad c e := hy
        unfold Bad at hy
        subst hy
        go_wp2_with fail
        exact ⟨rfl, k5, rfl⟩
      | ok n j =>
        obtain ⟨rfl, hy⟩ := hy
        go_wp2_with fail
        go_ret
        exact ⟨k5, rfl, hy⟩
    · rw [if_neg hb92] at HRR
      have hbi : ((b : Int) == 92) = false := by simp; omega
      have hbe : ¬ (b : Int) = 92 := by omega
      go_wp2_with (first | (go_at_call 57; refine (must_yes _ _ _).mono ?_; rintro e w2 ⟨rfl, rfl⟩))
      go_ret
      rw [← HRR.out]
      exact ⟨k2.out, rfl, h3.out, hb⟩
  · have eP : letP S.data.toList i = .bad 63 := if_neg hlt
    rw [eP]
    rw [decide_eq_false hlt] at S1
    clear eP h
    go_enter Try.func73, Try.ntmps73
    go_wp2_with fail
    refine S1.out.mono ?_
    rintro e w1 ⟨rfl, k1⟩
    clear S1
    go_wp2_with (first | (go_at_call 57; refine (must_no _ 63 _).mono ?_; rintro e w2 ⟨rfl, rfl⟩))
    exact ⟨rfl, k1.wider fun _ h => h.elim, rfl⟩

/-! a set's bytes are put in -/
def BS.fit (S : BS) : Prop := fitB S.a S.b S.c S.d
theorem or_fit {x n : Nat} (h : x < 18446744073709551616) (hn : n < 64) : x ||| 2 ^ n < 18446744073709551616 :=
  Nat.or_lt_two_pow (n := 64) h (Nat.pow_lt_pow_right (by decide) hn)
theorem BS.put1_fit {S : BS} (h : S.fit) (n : Nat) : (S.put1 n).fit := by
  have hn : n % 64 < 64 := Nat.mod_lt _ (by decide)
  obtain ⟨h1, h2, h3, h4⟩ := h
  unfold BS.put1 BS.on
  split
  · exact ⟨or_fit h1 hn, h2, h3, h4⟩
  · split
    · exact ⟨h1, or_fit h2 hn, h3, h4⟩
    · split
      · exact ⟨h1, h2, or_fit h3 hn, h4⟩
      · exact ⟨h1, h2, h3, or_fit h4 hn⟩
theorem BS.puts_fit {S : BS} (h : S.fit) (lo : Nat) : ∀ n, (S.puts lo n).fit
  | 0 => h
  | n + 1 => BS.put1_fit (BS.puts_fit h lo n) _
theorem BS.put_fit {S : BS} (h : S.fit) (lo hi : Nat) : (S.put lo hi).fit := BS.puts_fit h lo _
theorem BS.zero_fit : BS.zero.fit := ⟨by decide, by decide, by decide, by decide⟩
theorem at_fit {S : BS} (h : S.fit) (q : Nat) : S.at_ q < 18446744073709551616 := by
  obtain ⟨h1, h2, h3, h4⟩ := h
  unfold BS.at_
  split
  · exact h1
  · split
    · exact h2
    · split
      · exact h3
      · exact h4
theorem node_put {w : World} {o : Nat} {S : BS} {v : Value} (h : NodeAt w o 1 S v) {n : Nat} (hn : n < 256) : NodeAt (w.setCell ⟨o, 1 + n / 64, none⟩ (.int .u64 ((S.at_ (n / 64) ||| 2 ^ (n % 64) : Nat) : Int))) o 1 (S.put1 n) v := by
  have hq : n / 64 = 0 ∨ n / 64 = 1 ∨ n / 64 = 2 ∨ n / 64 = 3 := by omega
  have hp := Whole1.put h (1 + n / 64) (.int .u64 ((S.at_ (n / 64) ||| 2 ^ (n % 64) : Nat) : Int))
  unfold BS.put1 BS.on
  rcases hq with e | e | e | e <;> rw [e] at hp ⊢ <;> exact hp
theorem node_cell {w : World} {o : Nat} {k : Int} {S : BS} {v : Value} (h : NodeAt w o k S v) {q : Nat} (hq : q < 4) : w.cell? ⟨o, 1 + q, none⟩ = some (.int .u64 (S.at_ q : Nat)) ∧ w.frozen? ⟨o, 1 + q, none⟩ = false := by
  have : q = 0 ∨ q = 1 ∨ q = 2 ∨ q = 3 := by omega
  refine ⟨?_, Whole1.free h _⟩
  rcases this with rfl | rfl | rfl | rfl
  · exact Whole1.cell h 1
  · exact Whole1.cell h 2
  · exact Whole1.cell h 3
  · exact Whole1.cell h 4

set_option maxHeartbeats 3200000 in
theorem put_any (o lo hi : Nat) (S : BS) (v : Value) (w : World) (h : NodeAt w o 1 S v) (hS : S.fit) (hlo : lo < 256) (hhi : hi < 256) :
    Calls Try.prog 71 #[.pointer (some ⟨o, 1, none⟩), .int .u8 (lo : Int), .int .u8 (hi : Int)] w fun e w' => e = .returned (.tuple #[]) ∧ NodeAt w' o 1 (S.put lo hi) v ∧ Kr o w w' := by
  go_enter Try.func71, Try.ntmps71
  go_wp2_with fail
  go_loopw [6] (fun vi wr => ∃ k : Nat, vi = .int .i64 ((lo + k : Nat) : Int) ∧ k ≤ hi + 1 - lo ∧ Hid (NodeAt wr o 1 (S.puts lo k) v) ∧ Hid (Kr o w wr)) (fun vi _ => 256 - (intOf vi).toNat)
  case atStart => exact ⟨0, rfl, Nat.zero_le _, h, Kp.refl _ _⟩
  case round =>
    obtain ⟨k, rfl, hk, hn, hkr⟩ := hrel
    obtain ⟨n, hnn⟩ : ∃ n, lo + k = n := ⟨_, rfl⟩
    rw [hnn]
    by_cases hlt : n ≤ hi
    · have i0 : (n : Int) ≤ (hi : Int) := by omega
      have HF := hidden (S.puts_fit hS lo k)
      obtain ⟨cc, ff⟩ := node_cell hn.out (q := n / 64) (by omega)
      have q1 : ((n / 64 : Nat) : Int) = (n : Int) / 64 := by omega
      have q2 : ((n % 64 : Nat) : Int) = (n : Int) % 64 := by omega
      have q3 : (n : Int) / 64 < 4 := by omega
      have q4 : n / 64 < 4 := by omega
      have q5 : (0 : Int) ≤ (n : Int) := by omega
      have HN := hidden hnn
      have HP := hidden (node_put hn.out (n := n) (by omega))
      clear hnn
      go_wp2_with fail
      go_region
      have hx : (S.puts lo k).at_ (n / 64) < 18446744073709551616 := at_fit HF.out _
      have hy : 2 ^ (n % 64) < 18446744073709551616 := Nat.pow_lt_pow_right (n := 64) (by decide) (Nat.mod_lt _ (by decide))
      have e1 : (2 : Int) ^ (n % 64) = ((2 ^ (n % 64) : Nat) : Int) := by simp
      have e2 : IntKind.u64.wrap ((2 : Int) ^ (n % 64)) = ((2 ^ (n % 64) : Nat) : Int) := by rw [e1]; generalize 2 ^ (n % 64) = z at hy ⊢; exact Go.IntWalk.u64_in _ (by omega)
      have eX : bits BinOp.or IntKind.u64 (((S.puts lo k).at_ (n / 64) : Nat) : Int) (IntKind.u64.wrap ((2 : Int) ^ (n % 64))) = (((S.puts lo k).at_ (n / 64) ||| 2 ^ (n % 64) : Nat) : Int) := by
        rw [e2]; exact bits_or_u64_nat _ _ hx hy
      rw [eX]
      have HK := hidden (show Kr o w ((wr.setCell ⟨o, 1 + n / 64, none⟩ (.int .u64 (((S.puts lo k).at_ (n / 64) ||| 2 ^ (n % 64) : Nat) : Int))).drew) from (Kr.put hkr.out _).drew)
      have HP2 := hidden (show NodeAt ((wr.setCell ⟨o, 1 + n / 64, none⟩ (.int .u64 (((S.puts lo k).at_ (n / 64) ||| 2 ^ (n % 64) : Nat) : Int))).drew) o 1 (S.puts lo (k + 1)) v from by
        have := HP.out
        show NodeAt _ o 1 ((S.puts lo k).put1 (lo + k)) v
        rw [HN.out]
        exact this)
      clear eX e1 e2 hx hy cc ff
      generalize (wr.setCell ⟨o, 1 + n / 64, none⟩ (.int .u64 (((S.puts lo k).at_ (n / 64) ||| 2 ^ (n % 64) : Nat) : Int))).drew = w5 at *
      have fw : IntKind.i64.wrap ((n : Int) + 1) = (n : Int) + 1 := Go.IntWalk.i64_in _ (by omega)
      go_wp2_with fail
      go_roundw
      case rel => exact ⟨k + 1, by have := HN.out; congr 1; omega, by have := HN.out; omega, HP2, HK⟩
      case measure => simp [intOf]; omega
    · have i0 : ¬ (n : Int) ≤ (hi : Int) := by omega
      have e1 : k = hi + 1 - lo := by omega
      subst e1
      go_wp2_with fail
      go_end0
      exact ⟨rfl, hn.out, hkr.out⟩
end Go.Proofs.Ytalnndenncnbdaa
