/- The pattern's reader: peek, must, escaped, letter, walked. Condition: the pattern is no longer than memory. When a set of bytes is empty. No condition. The pattern's reader: a class, walked. Condition: the pattern is no longer than memory. -/
import Derived.Test.YthncochjhbmceaaGreatPk408bb471
import Derived.ChangeKeysEq
import Derived.Laws.StructEq
import Derived.BigQuiet
import Derived.Lib.Zigzag
import Derived.Deep.LoopGhost
namespace Go.Proofs.YthncochjhbmceaaGreat
set_option maxRecDepth 100000
open Go.RowKit

/-- the reader, as it lies -/
structure Rd (w : World) (r : Nat) (S : ByteArray) (i d : Nat) : Prop where
  blk : Whole1 w r 272 #[.string S, .int .i64 (i : Int), .int .i64 (d : Int)]
  in_ : i ≤ S.size
  fit : S.size ≤ 140737488355328
  deep : d ≤ 16
/-- only the reader, and what is new, may have turned -/
abbrev Kr (r : Nat) (w w' : World) : Prop := Kp (fun k => k = r) w w'
theorem Rd.cells {w : World} {r i d : Nat} {S : ByteArray} (h : Rd w r S i d) : w.cell? ⟨r, 0, none⟩ = some (.string S) ∧ w.cell? ⟨r, 1, none⟩ = some (.int .i64 (i : Int)) ∧ w.cell? ⟨r, 2, none⟩ = some (.int .i64 (d : Int)) ∧ w.frozen? ⟨r, 1, none⟩ = false ∧ w.frozen? ⟨r, 2, none⟩ = false :=
  ⟨h.blk.cell 0, h.blk.cell 1, h.blk.cell 2, h.blk.free 1, h.blk.free 2⟩
theorem Rd.keep {w w' : World} {r i d : Nat} {S : ByteArray} {F : Nat → Prop} (h : Rd w r S i d) (k : Kp F w w') (hF : ¬ F r) : Rd w' r S i d := ⟨(k.block r h.blk.lt hF).trans h.blk, h.in_, h.fit, h.deep⟩
theorem Rd.drewN {w : World} {r i d : Nat} {S : ByteArray} (h : Rd w r S i d) (n : Nat) : Rd (w.drewN n) r S i d := h.keep ((Kp.refl (fun _ => False) w).drewN n) id
theorem Rd.put1 {w : World} {r i d : Nat} {S : ByteArray} (h : Rd w r S i d) {j : Nat} (hj : j ≤ S.size) : Rd (w.setCell ⟨r, 1, none⟩ (.int .i64 (j : Int))) r S j d := ⟨h.blk.put 1 _, hj, h.fit, h.deep⟩
theorem Rd.put2 {w : World} {r i d : Nat} {S : ByteArray} (h : Rd w r S i d) {j : Nat} (hj : j ≤ 16) : Rd (w.setCell ⟨r, 2, none⟩ (.int .i64 (j : Int))) r S i j := ⟨h.blk.put 2 _, h.in_, h.fit, hj⟩
theorem Kr.put {w w' : World} {r i : Nat} (h : Kr r w w') (v : Value) : Kr r w (w'.setCell ⟨r, i, none⟩ v) := Kp.put h rfl i v
/-- it leaves by a panic with this number -/
def Bad (c : Nat) (e : Ending) : Prop := e = .panicked [{ v := .iface 41 (.int .i64 (c : Int)), recovered := false }]
/-- it answers the byte, and the reader stands behind it; or it leaves by a panic -/
def YieldB (r : Nat) (S : ByteArray) (d : Nat) (w : World) (res : PR Nat) (e : Ending) (w' : World) : Prop :=
  Kr r w w' ∧ match res with
  | .bad c => Bad c e
  | .ok n j => e = .returned (.int .u8 (n : Int)) ∧ Rd w' r S j d ∧ n < 256
/-- the byte that peek tells -/
def peekN (S : ByteArray) (i : Nat) : Nat := if i < S.size then byteN S.data.toList i else 0
theorem byteN_at {S : ByteArray} {i : Nat} (h : i < S.size) : byteN S.data.toList i = (S[i]'h).toNat := by
  rw [byteN, List.getElem?_eq_getElem (show i < S.data.toList.length from h)]; rfl
theorem byteN_lt (s : List UInt8) (i : Nat) : byteN s i < 256 := UInt8.toNat_lt _

set_option maxHeartbeats 1600000 in
theorem peek_any (r i d : Nat) (S : ByteArray) (w : World) (h : Rd w r S i d) :
    Calls Tryz.prog 174 #[.pointer (some ⟨r, 0, none⟩)] w fun e w' => e = .returned (.tuple #[.int .u8 (peekN S i : Nat), .bool (decide (i < S.size))]) ∧ Kp (fun _ => False) w w' := by
  obtain ⟨c0, c1, c2, _⟩ := h.cells
  have hin := h.in_
  by_cases hlt : i < S.size
  · have hne : ((i : Int) == (S.size : Int)) = false := by simp; omega
    have i0 : (0 : Int) ≤ (i : Int) := by omega
    have i1 : (i : Int) < (S.size : Int) := by omega
    have hb : peekN S i = (S[i]'hlt).toNat := by rw [peekN, if_pos hlt, byteN_at hlt]
    rw [hb, decide_eq_true hlt]
    clear h hb
    go_enter Tryz.func174, Tryz.ntmps174
    go_wp2_with fail
    go_quiet (fail)
    go_wp2_with fail
    go_quiet (fail)
    go_wp2_with fail
    go_ret2
    exact ⟨rfl, ((Kp.refl _ _).drewN _).drewN _⟩
  · obtain rfl : i = S.size := by omega
    have hne : ((S.size : Int) == (S.size : Int)) = true := by simp
    have hb : peekN S S.size = 0 := by rw [peekN, if_neg hlt]
    rw [hb, decide_eq_false hlt]
    clear h hb
    go_enter Tryz.func174, Tryz.ntmps174
    go_wp2_with fail
    go_quiet (fail)
    go_wp2_with fail
    go_ret2
    exact ⟨rfl, (Kp.refl _ _).drewN _⟩

theorem must_yes (v : Value) (c : Int) (w : World) : Calls Tryz.prog 194 #[v, .bool true, .int .i64 c] w fun e w' => e = .returned (.tuple #[]) ∧ w' = w := by
  go_enter Tryz.func194, Tryz.ntmps194
  go_wp2_with fail
  go_end0
  exact ⟨rfl, rfl⟩
theorem must_no (v : Value) (c : Nat) (w : World) : Calls Tryz.prog 194 #[v, .bool false, .int .i64 (c : Int)] w fun e w' => Bad c e ∧ w' = w := by
  go_enter Tryz.func194, Tryz.ntmps194
  go_wp2_with fail
  exact ⟨rfl, rfl, rfl⟩

set_option maxHeartbeats 1600000 in
theorem escaped_any (r i d : Nat) (S : ByteArray) (w : World) (h : Rd w r S i d) :
    Calls Tryz.prog 222 #[.pointer (some ⟨r, 0, none⟩)] w (YieldB r S d w (escP S.data.toList i)) := by
  have S1 := hidden (peek_any r i d S w h)
  have H := hidden h
  by_cases hlt : i < S.size
  · have eP : escP S.data.toList i = .ok (byteN S.data.toList i) (i + 1) := if_pos hlt
    have eK : peekN S i = byteN S.data.toList i := if_pos hlt
    rw [eP]
    rw [eK, decide_eq_true hlt] at S1
    have hb := byteN_lt S.data.toList i
    clear eP eK h
    generalize byteN S.data.toList i = b at *
    go_enter Tryz.func222, Tryz.ntmps222
    go_wp2_with fail
    refine S1.out.mono ?_
    rintro e w1 ⟨rfl, k1⟩
    have h1 := H.out.keep k1 id
    obtain ⟨c0, c1, c2, f1, f2⟩ := h1.cells
    have fw : IntKind.i64.wrap ((i : Int) + 1) = (i : Int) + 1 := Go.IntWalk.i64_in _ (by have := h1.fit; omega)
    clear S1
    go_wp2_with (first | (go_at_call 194; refine (must_yes _ _ _).mono ?_; rintro e w2 ⟨rfl, rfl⟩))
    go_ret
    exact ⟨Kr.put (k1.wider fun _ h => h.elim) _, rfl, h1.put1 (j := i + 1) (by omega), hb⟩
  · have eP : escP S.data.toList i = .bad 65 := if_neg hlt
    rw [eP]
    rw [decide_eq_false hlt] at S1
    clear eP h
    go_enter Tryz.func222, Tryz.ntmps222
    go_wp2_with fail
    refine S1.out.mono ?_
    rintro e w1 ⟨rfl, k1⟩
    clear S1
    go_wp2_with (first | (go_at_call 194; refine (must_no _ 65 _).mono ?_; rintro e w2 ⟨rfl, rfl⟩))
    exact ⟨rfl, k1.wider fun _ h => h.elim, rfl⟩

set_option maxHeartbeats 1600000 in
theorem letter_any (r i d : Nat) (S : ByteArray) (w : World) (h : Rd w r S i d) :
    Calls Tryz.prog 226 #[.pointer (some ⟨r, 0, none⟩)] w (YieldB r S d w (letP S.data.toList i)) := by
  have S1 := hidden (peek_any r i d S w h)
  have H := hidden h
  by_cases hlt : i < S.size
  · have eP : letP S.data.toList i = if byteN S.data.toList i = 92 then escP S.data.toList (i + 1) else .ok (byteN S.data.toList i) (i + 1) := if_pos hlt
    have eK : peekN S i = byteN S.data.toList i := if_pos hlt
    rw [eP]
    rw [eK, decide_eq_true hlt] at S1
    have hb := byteN_lt S.data.toList i
    clear eP eK h
    generalize byteN S.data.toList i = b at *
    obtain ⟨RR, hRR⟩ : ∃ RR, (if b = 92 then escP S.data.toList (i + 1) else .ok b (i + 1)) = RR := ⟨_, rfl⟩
    rw [hRR]
    have HRR := hidden hRR
    clear hRR
    go_enter Tryz.func226, Tryz.ntmps226
    go_wp2_with fail
    refine S1.out.mono ?_
    rintro e w1 ⟨rfl, k1⟩
    have h1 := H.out.keep k1 id
    obtain ⟨c0, c1, c2, f1, f2⟩ := h1.cells
    have fw : IntKind.i64.wrap ((i : Int) + 1) = (i : Int) + 1 := Go.IntWalk.i64_in _ (by have := h1.fit; omega)
    have h2 := hidden (h1.put1 (j := i + 1) (by omega))
    have k2 := hidden (Kr.put (i := 1) (k1.wider (G := fun k => k = r) fun _ h => h.elim) (.int .i64 ((i + 1 : Nat) : Int)))
    have e1 : ((i + 1 : Nat) : Int) = (i : Int) + 1 := by omega
    rw [e1] at h2 k2
    have h3 := hidden (show Rd (w1.setCell ⟨r, 1, none⟩ (.int .i64 ((i : Int) + 1))) r S (i + 1) d from ⟨by have := h2.out.blk; rwa [e1] at this, h2.out.in_, h2.out.fit, h2.out.deep⟩)
    have S2 := hidden (escaped_any r (i + 1) d S _ h3.out)
    clear S1 h1 h2 e1
    by_cases hb92 : b = 92
    · subst hb92
      rw [if_pos rfl] at HRR
      go_wp2_with (first | (go_at_call 194; refine (must_yes _ _ _).mono ?_; rintro e w2 ⟨rfl, rfl⟩))
      refine S2.out.mono ?_
      rintro e w4 ⟨k4, hy⟩
      rw [HRR.out] at hy
      have k5 : Kr r w w4 := k2.out.trans k4
      cases RR with
      | bad c =>
        have hy : Bad c e := hy
        unfold Bad at hy
        subst hy
        go_wp2_with fail
        exact ⟨rfl, k5, rfl⟩
      | ok n j =>
        obtain ⟨rfl, hy⟩ := hy
        go_wp2_with fail
        go_ret
        exact ⟨k5, rfl, hy⟩
    · rw [if_neg hb92] at HRR
      have hbi : ((b : Int) == 92) = false := by simp; omega
      have hbe : ¬ (b : Int) = 92 := by omega
      go_wp2_with (first | (go_at_call 194; refine (must_yes _ _ _).mono ?_; rintro e w2 ⟨rfl, rfl⟩))
      go_ret
      rw [← HRR.out]
      exact ⟨k2.out, rfl, h3.out, hb⟩
  · have eP : letP S.data.toList i = .bad 63 := if_neg hlt
    rw [eP]
    rw [decide_eq_false hlt] at S1
    clear eP h
    go_enter Tryz.func226, Tryz.ntmps226
    go_wp2_with fail
    refine S1.out.mono ?_
    rintro e w1 ⟨rfl, k1⟩
    clear S1
    go_wp2_with (first | (go_at_call 194; refine (must_no _ 63 _).mono ?_; rintro e w2 ⟨rfl, rfl⟩))
    exact ⟨rfl, k1.wider fun _ h => h.elim, rfl⟩

/-! a set's bytes are put in -/
def BS.fit (S : BS) : Prop := fitB S.a S.b S.c S.d
theorem or_fit {x n : Nat} (h : x < 18446744073709551616) (hn : n < 64) : x ||| 2 ^ n < 18446744073709551616 :=
  Nat.or_lt_two_pow (n := 64) h (Nat.pow_lt_pow_right (by decide) hn)
theorem BS.put1_fit {S : BS} (h : S.fit) (n : Nat) : (S.put1 n).fit := by
  have hn : n % 64 < 64 := Nat.mod_lt _ (by decide)
  obtain ⟨h1, h2, h3, h4⟩ := h
  unfold BS.put1 BS.on
  split
  · exact ⟨or_fit h1 hn, h2, h3, h4⟩
  · split
    · exact ⟨h1, or_fit h2 hn, h3, h4⟩
    · split
      · exact ⟨h1, h2, or_fit h3 hn, h4⟩
      · exact ⟨h1, h2, h3, or_fit h4 hn⟩
theorem BS.puts_fit {S : BS} (h : S.fit) (lo : Nat) : ∀ n, (S.puts lo n).fit
  | 0 => h
  | n + 1 => BS.put1_fit (BS.puts_fit h lo n) _
theorem BS.put_fit {S : BS} (h : S.fit) (lo hi : Nat) : (S.put lo hi).fit := BS.puts_fit h lo _
theorem BS.zero_fit : BS.zero.fit := ⟨by decide, by decide, by decide, by decide⟩
theorem at_fit {S : BS} (h : S.fit) (q : Nat) : S.at_ q < 18446744073709551616 := by
  obtain ⟨h1, h2, h3, h4⟩ := h
  unfold BS.at_
  split
  · exact h1
  · split
    · exact h2
    · split
      · exact h3
      · exact h4
theorem node_put {w : World} {o : Nat} {S : BS} {v : Value} (h : NodeAt w o 1 S v) {n : Nat} (hn : n < 256) : NodeAt (w.setCell ⟨o, 1 + n / 64, none⟩ (.int .u64 ((S.at_ (n / 64) ||| 2 ^ (n % 64) : Nat) : Int))) o 1 (S.put1 n) v := by
  have hq : n / 64 = 0 ∨ n / 64 = 1 ∨ n / 64 = 2 ∨ n / 64 = 3 := by omega
  have hp := Whole1.put h (1 + n / 64) (.int .u64 ((S.at_ (n / 64) ||| 2 ^ (n % 64) : Nat) : Int))
  unfold BS.put1 BS.on
  rcases hq with e | e | e | e <;> rw [e] at hp ⊢ <;> exact hp
theorem node_cell {w : World} {o : Nat} {k : Int} {S : BS} {v : Value} (h : NodeAt w o k S v) {q : Nat} (hq : q < 4) : w.cell? ⟨o, 1 + q, none⟩ = some (.int .u64 (S.at_ q : Nat)) ∧ w.frozen? ⟨o, 1 + q, none⟩ = false := by
  have : q = 0 ∨ q = 1 ∨ q = 2 ∨ q = 3 := by omega
  refine ⟨?_, Whole1.free h _⟩
  rcases this with rfl | rfl | rfl | rfl
  · exact Whole1.cell h 1
  · exact Whole1.cell h 2
  · exact Whole1.cell h 3
  · exact Whole1.cell h 4

set_option maxHeartbeats 3200000 in
theorem put_any (o lo hi : Nat) (S : BS) (v : Value) (w : World) (h : NodeAt w o 1 S v) (hS : S.fit) (hlo : lo < 256) (hhi : hi < 256) :
    Calls Tryz.prog 221 #[.pointer (some ⟨o, 1, none⟩), .int .u8 (lo : Int), .int .u8 (hi : Int)] w fun e w' => e = .returned (.tuple #[]) ∧ NodeAt w' o 1 (S.put lo hi) v ∧ Kr o w w' := by
  go_enter Tryz.func221, Tryz.ntmps221
  go_wp2_with fail
  go_loopw [6] (fun vi wr => ∃ k : Nat, vi = .int .i64 ((lo + k : Nat) : Int) ∧ k ≤ hi + 1 - lo ∧ Hid (NodeAt wr o 1 (S.puts lo k) v) ∧ Hid (Kr o w wr)) (fun vi _ => 256 - (intOf vi).toNat)
  case atStart => exact ⟨0, rfl, Nat.zero_le _, h, Kp.refl _ _⟩
  case round =>
    obtain ⟨k, rfl, hk, hn, hkr⟩ := hrel
    obtain ⟨n, hnn⟩ : ∃ n, lo + k = n := ⟨_, rfl⟩
    rw [hnn]
    by_cases hlt : n ≤ hi
    · have i0 : (n : Int) ≤ (hi : Int) := by omega
      have HF := hidden (S.puts_fit hS lo k)
      obtain ⟨cc, ff⟩ := node_cell hn.out (q := n / 64) (by omega)
      have q1 : ((n / 64 : Nat) : Int) = (n : Int) / 64 := by omega
      have q2 : ((n % 64 : Nat) : Int) = (n : Int) % 64 := by omega
      have q3 : (n : Int) / 64 < 4 := by omega
      have q4 : n / 64 < 4 := by omega
      have q5 : (0 : Int) ≤ (n : Int) := by omega
      have HN := hidden hnn
      have HP := hidden (node_put hn.out (n := n) (by omega))
      clear hnn
      go_wp2_with fail
      go_region
      have hx : (S.puts lo k).at_ (n / 64) < 18446744073709551616 := at_fit HF.out _
      have hy : 2 ^ (n % 64) < 18446744073709551616 := Nat.pow_lt_pow_right (n := 64) (by decide) (Nat.mod_lt _ (by decide))
      have e1 : (2 : Int) ^ (n % 64) = ((2 ^ (n % 64) : Nat) : Int) := by simp
      have e2 : IntKind.u64.wrap ((2 : Int) ^ (n % 64)) = ((2 ^ (n % 64) : Nat) : Int) := by rw [e1]; generalize 2 ^ (n % 64) = z at hy ⊢; exact Go.IntWalk.u64_in _ (by omega)
      have eX : bits BinOp.or IntKind.u64 (((S.puts lo k).at_ (n / 64) : Nat) : Int) (IntKind.u64.wrap ((2 : Int) ^ (n % 64))) = (((S.puts lo k).at_ (n / 64) ||| 2 ^ (n % 64) : Nat) : Int) := by
        rw [e2]; exact bits_or_u64_nat _ _ hx hy
      rw [eX]
      have HK := hidden (show Kr o w ((wr.setCell ⟨o, 1 + n / 64, none⟩ (.int .u64 (((S.puts lo k).at_ (n / 64) ||| 2 ^ (n % 64) : Nat) : Int))).drew) from (Kr.put hkr.out _).drew)
      have HP2 := hidden (show NodeAt ((wr.setCell ⟨o, 1 + n / 64, none⟩ (.int .u64 (((S.puts lo k).at_ (n / 64) ||| 2 ^ (n % 64) : Nat) : Int))).drew) o 1 (S.puts lo (k + 1)) v from by
        have := HP.out
        show NodeAt _ o 1 ((S.puts lo k).put1 (lo + k)) v
        rw [HN.out]
        exact this)
      clear eX e1 e2 hx hy cc ff
      generalize (wr.setCell ⟨o, 1 + n / 64, none⟩ (.int .u64 (((S.puts lo k).at_ (n / 64) ||| 2 ^ (n % 64) : Nat) : Int))).drew = w5 at *
      have fw : IntKind.i64.wrap ((n : Int) + 1) = (n : Int) + 1 := Go.IntWalk.i64_in _ (by omega)
      go_wp2_with fail
      go_roundw
      case rel => exact ⟨k + 1, by have := HN.out; congr 1; omega, by have := HN.out; omega, HP2, HK⟩
      case measure => simp [intOf]; omega
    · have i0 : ¬ (n : Int) ≤ (hi : Int) := by omega
      have e1 : k = hi + 1 - lo := by omega
      subst e1
      go_wp2_with fail
      go_end0
      exact ⟨rfl, hn.out, hkr.out⟩
end Go.Proofs.YthncochjhbmceaaGreat

namespace Go.Proofs.YthncochjhbmceaaGreat
set_option maxRecDepth 100000
open Go.RowKit

theorem part_int {P : Program} (w : World) {e : TypeId} {k : IntKind} (he : P.underlying e = some (.int k)) {xs : Array Value} {off : Nat} {v : Value} (hx : xs[off]? = some v) : (part e xs off).run P w = .ok v w := by
  simp [part, isAgg, run_underlying he, hx]
theorem infoU : (Tryz.prog.info? 66).map (fun i => i.size) = some 1 := by kernel_rfl
theorem eq_set (a b c d : Nat) (w : World) : (Op.equalIn 10000 329 (.agg #[.int .u64 (a : Int), .int .u64 (b : Int), .int .u64 (c : Int), .int .u64 (d : Int)]) (.agg #[.int .u64 0, .int .u64 0, .int .u64 0, .int .u64 0])).run Tryz.prog w = .ok (BS.isZero ⟨a, b, c, d⟩) w := by
  obtain ⟨i, hi, hs⟩ := Option.map_eq_some_iff.1 infoU
  have hc : Tryz.prog.cellsOf 66 = 1 := by kernel_rfl
  rw [run_equalIn_array w 9999 _ _ Tryz.underlying329 hi, hc, show List.range 4 = [0, 1, 2, 3] from rfl]
  by_cases ha : a = 0 <;> by_cases hb : b = 0 <;> by_cases hc0 : c = 0 <;> by_cases hd : d = 0 <;> simp [Op.eqItems, part_int w Tryz.underlying66, run_equalIn_int w _ _ _ _ _ _ Tryz.underlying66, Result.andThen, BS.isZero, ha, hb, hc0, hd]
end Go.Proofs.YthncochjhbmceaaGreat

namespace Go.Proofs.YthncochjhbmceaaGreat
set_option maxRecDepth 100000
open Go.RowKit

/-- only the reader, the class's node, and what is new, may have turned -/
abbrev Kro (r o : Nat) (w w' : World) : Prop := Kp (fun k => k = r ∨ k = o) w w'
/-- a class under way -/
structure Cl (w0 w : World) (r o : Nat) (S : ByteArray) (i d : Nat) (B : BS) (v : Value) : Prop where
  rd : Rd w r S i d
  node : NodeAt w o 1 B v
  fit : B.fit
  ne : o ≠ r
  kp : Kro r o w0 w
section
variable {w0 w w' : World} {r o i j d : Nat} {S : ByteArray} {B B' : BS} {v : Value}
theorem Cl.quiet (h : Cl w0 w r o S i d B v) (k : Kp (fun _ => False) w w') : Cl w0 w' r o S i d B v :=
  ⟨h.rd.keep k id, (k.block o (Whole1.lt h.node) id).trans h.node, h.fit, h.ne, h.kp.trans (k.wider fun _ h => h.elim)⟩
theorem Cl.read (h : Cl w0 w r o S i d B v) (k : Kr r w w') (hr : Rd w' r S j d) : Cl w0 w' r o S j d B v :=
  ⟨hr, (k.block o (Whole1.lt h.node) h.ne).trans h.node, h.fit, h.ne, h.kp.trans (k.wider fun _ => .inl)⟩
theorem Cl.lay (h : Cl w0 w r o S i d B v) (k : Kr o w w') (hn : NodeAt w' o 1 B' v) (hf : B'.fit) : Cl w0 w' r o S i d B' v :=
  ⟨h.rd.keep k (fun e => h.ne e.symm), hn, hf, h.ne, h.kp.trans (k.wider fun _ => .inr)⟩
end
/-- it leaves by a panic, or the class is laid and the reader stands behind it -/
def YieldC (r o : Nat) (S : ByteArray) (d : Nat) (v : Value) (w : World) (res : PR BS) (e : Ending) (w' : World) : Prop :=
  Kro r o w w' ∧ match res with
  | .bad c => Bad c e
  | .ok B j => e = .returned (.tuple #[]) ∧ Rd w' r S j d ∧ NodeAt w' o 1 B v ∧ B.fit
/-- the first k numbers turned -/
def BS.notN (S : BS) : Nat → BS
  | 0 => S
  | k + 1 => (S.notN k).on k fun x => 18446744073709551615 - x
theorem BS.notN_four (S : BS) : S.notN 4 = S.not := rfl
theorem BS.on_fit {S : BS} (h : S.fit) {f : Nat → Nat} (hf : ∀ x, x < 18446744073709551616 → f x < 18446744073709551616) (k : Nat) : (S.on k f).fit := by
  obtain ⟨h1, h2, h3, h4⟩ := h
  unfold BS.on
  split
  · exact ⟨hf _ h1, h2, h3, h4⟩
  · split
    · exact ⟨h1, hf _ h2, h3, h4⟩
    · split
      · exact ⟨h1, h2, hf _ h3, h4⟩
      · exact ⟨h1, h2, h3, hf _ h4⟩
theorem BS.notN_fit {S : BS} (h : S.fit) : ∀ k, (S.notN k).fit
  | 0 => h
  | k + 1 => BS.on_fit (BS.notN_fit h k) (fun x hx => by omega) k
theorem node_on {w : World} {o : Nat} {S : BS} {v : Value} (h : NodeAt w o 1 S v) {q : Nat} (hq : q < 4) (f : Nat → Nat) : NodeAt (w.setCell ⟨o, 1 + q, none⟩ (.int .u64 ((f (S.at_ q) : Nat) : Int))) o 1 (S.on q f) v := by
  have hq : q = 0 ∨ q = 1 ∨ q = 2 ∨ q = 3 := by omega
  have hp := Whole1.put h (1 + q) (.int .u64 ((f (S.at_ q) : Nat) : Int))
  unfold BS.on
  rcases hq with rfl | rfl | rfl | rfl <;> exact hp
theorem xor_all {x : Nat} (h : x < 18446744073709551616) : bits BinOp.xor IntKind.u64 (if IntKind.u64.signed = true then -1 else IntKind.u64.max) (x : Int) = ((18446744073709551615 - x : Nat) : Int) := by
  have e1 : (if IntKind.u64.signed = true then (-1 : Int) else IntKind.u64.max) = ((18446744073709551615 : Nat) : Int) := by decide
  rw [e1, bits_xor_u64_nat _ _ (by decide) h, show (18446744073709551615 : Nat) = 2 ^ 64 - 1 from rfl, Lib.xor_ones64 _ h]
theorem items_bad (s : List UInt8) {f i n e : Nat} {S : BS} {fl : Bool} (h : ¬ (i < s.length ∧ byteN s i = 93)) (hi : itemP s i = .bad e) : itemsP s (f + 1) i S n fl = .bad e := by
  rw [itemsP, if_neg h, hi]
theorem items_more (s : List UInt8) {f i n lo hi j : Nat} {S : BS} {fl : Bool} (h : ¬ (i < s.length ∧ byteN s i = 93)) (hit : itemP s i = .ok (lo, hi) j) : itemsP s (f + 1) i S n fl = itemsP s f j (S.put lo hi) (n + 1) (fl || decide (hi < lo)) := by
  rw [itemsP, if_neg h, hit]
theorem item_bad1 {s : List UInt8} {i e : Nat} (h : letP s i = .bad e) : itemP s i = .bad e := by rw [itemP, h]
theorem item_one {s : List UInt8} {i lo j : Nat} (h : letP s i = .ok lo j) (hc : ¬ (j + 1 < s.length ∧ byteN s j = 45 ∧ byteN s (j + 1) ≠ 93)) : itemP s i = .ok (lo, lo) j := by
  rw [itemP, h]; simp only; rw [if_neg hc]
theorem item_bad2 {s : List UInt8} {i lo j e : Nat} (h : letP s i = .ok lo j) (hc : j + 1 < s.length ∧ byteN s j = 45 ∧ byteN s (j + 1) ≠ 93) (h2 : letP s (j + 1) = .bad e) : itemP s i = .bad e := by
  rw [itemP, h]; simp only; rw [if_pos hc, h2]
theorem item_two {s : List UInt8} {i lo hi j k : Nat} (h : letP s i = .ok lo j) (hc : j + 1 < s.length ∧ byteN s j = 45 ∧ byteN s (j + 1) ≠ 93) (h2 : letP s (j + 1) = .ok hi k) : itemP s i = .ok (lo, hi) k := by
  rw [itemP, h]; simp only; rw [if_pos hc, h2]
/-- what a class is, its items read -/
def endC (tn : Bool) : PR (BS × Nat × Bool) → PR BS
  | .bad e => .bad e
  | .ok (S, n, fl) j => if n = 0 ∨ fl = true ∨ (if tn then S.not else S).isZero = true then .bad 63 else .ok (if tn then S.not else S) j
theorem class_end (s : List UInt8) (i : Nat) : classP s i = endC (decide (i < s.length ∧ byteN s i = 94)) (itemsP s (s.length + 1) (if decide (i < s.length ∧ byteN s i = 94) then i + 1 else i) .zero 0 false) := by
  unfold classP
  simp only
  cases itemsP s (s.length + 1) (if decide (i < s.length ∧ byteN s i = 94) then i + 1 else i) .zero 0 false with
  | bad e => rfl
  | ok a j => rfl
theorem peek_is {S : ByteArray} {i c : Nat} (hc : c ≠ 0) : ((peekN S i : Int) == (c : Int)) = decide (i < S.size ∧ byteN S.data.toList i = c) := by
  rw [Bool.eq_iff_iff, beq_iff_eq, decide_eq_true_iff]
  unfold peekN
  split
  · constructor
    · intro h; exact ⟨by assumption, by omega⟩
    · intro h; omega
  · constructor
    · intro h; omega
    · intro h; omega
theorem items_end (s : List UInt8) {f i n : Nat} {S : BS} {fl : Bool} (h : i < s.length ∧ byteN s i = 93) : itemsP s (f + 1) i S n fl = .ok (S, n, fl) (i + 1) := by
  rw [itemsP, if_pos h]
theorem esc_next {s : List UInt8} {i n j : Nat} (h : escP s i = .ok n j) : i < s.length ∧ j = i + 1 := by
  unfold escP at h
  split at h
  · rename_i hl
    cases h
    exact ⟨hl, rfl⟩
  · cases h
theorem let_next {s : List UInt8} {i n j : Nat} (h : letP s i = .ok n j) : i < j ∧ j ≤ s.length := by
  unfold letP at h
  split at h
  · rename_i hl
    split at h
    · obtain ⟨h1, h2⟩ := esc_next h
      omega
    · cases h
      omega
  · cases h

set_option maxHeartbeats 6400000 in
theorem class_any (r o i d : Nat) (S : ByteArray) (v : Value) (w : World) (h : Rd w r S i d) (hn : NodeAt w o 1 .zero v) (hne : o ≠ r) :
    Calls Tryz.prog 220 #[.pointer (some ⟨r, 0, none⟩), .pointer (some ⟨o, 1, none⟩)] w (YieldC r o S d v w (classP S.data.toList i)) := by
  have S1 := hidden (peek_any r i d S w h)
  have HC0 := hidden (show Cl w w r o S i d .zero v from ⟨h, hn, BS.zero_fit, hne, Kp.refl _ _⟩)
  obtain ⟨s, hs⟩ : ∃ s, S.data.toList = s := ⟨_, rfl⟩
  have hsl : s.length = S.size := by rw [← hs]; rfl
  have hfit := h.fit
  rw [hs]
  have HS := hidden hs
  obtain ⟨RR, hRR⟩ : ∃ RR, classP s i = RR := ⟨_, rfl⟩
  rw [hRR]
  have HRR := hidden hRR
  clear h hn hs hRR
  go_enter Tryz.func220, Tryz.ntmps220
  go_wp2_with fail
  refine S1.out.mono ?_
  rintro e w1 ⟨rfl, k1⟩
  have HC1 := hidden (HC0.out.quiet k1)
  clear S1 k1 HC0
  have hT : ((peekN S i : Int) == 94) = decide (i < S.size ∧ byteN S.data.toList i = 94) := peek_is (c := 94) (by decide)
  rw [HS.out] at hT
  have eE := class_end s i
  rw [hsl] at eE
  obtain ⟨tn, htn⟩ : ∃ tn, decide (i < S.size ∧ byteN s i = 94) = tn := ⟨_, rfl⟩
  rw [htn] at hT eE
  have HTN := hidden htn
  have HE := hidden (eE.symm.trans HRR.out)
  clear eE htn HRR
  generalize decide (i < S.size) = bk
  go_upto_if 21 with (fail)
  go_cut [] (fun wx => Hid (Cl w wx r o S (if tn then i + 1 else i) d .zero v))
  case first =>
    obtain ⟨c0, c1, c2, f1, f2⟩ := HC1.out.rd.cells
    have fw : IntKind.i64.wrap ((i : Int) + 1) = (i : Int) + 1 := Go.IntWalk.i64_in _ (by have := HC1.out.rd.in_; omega)
    cases tn with
    | true =>
      have hi : i < S.size := (of_decide_eq_true HTN.out).1
      have HX := hidden (HC1.out.read (Kr.put (i := 1) (Kp.refl _ w1) (.int .i64 ((i + 1 : Nat) : Int))) (HC1.out.rd.put1 (j := i + 1) (by omega)))
      have e1 : ((i + 1 : Nat) : Int) = (i : Int) + 1 := by omega
      rw [e1] at HX
      go_wp2_with fail
      go_meet
      exact HX
    | false =>
      go_wp2_with fail
      go_meet
      exact HC1
  case rest =>
    have HC2 := hidden hcut.out
    clear hcut HC1
    obtain ⟨i1, hi1⟩ : ∃ i1, (if tn = true then i + 1 else i) = i1 := ⟨_, rfl⟩
    rw [hi1] at HC2 HE
    clear hi1
    go_wp2_with fail
    go_loopg [7, 8] (S.size + 1) (fun k vn vf wr => ∃ (f j m : Nat) (B : BS) (fl : Bool), vn = .int .i64 (m : Int) ∧ vf = .bool fl ∧ S.size < j + f ∧ f ≤ k ∧ m ≤ j ∧ Hid (Cl w wr r o S j d B v) ∧ Hid (endC tn (itemsP s f j B m fl) = RR))
    case atStart => exact ⟨S.size + 1, i1, 0, .zero, false, rfl, rfl, by omega, Nat.le_refl _, Nat.zero_le _, HC2, HE⟩
    case round =>
      obtain ⟨f, j, m, B, fl, rfl, rfl, hf, hfk, hmj, hcl, hE⟩ := hrel
      clear HC2 HE
      obtain ⟨f, rfl⟩ : ∃ f', f = f' + 1 := ⟨f - 1, by have := hcl.out.rd.in_; omega⟩
      have S1 := hidden (peek_any r j d S wr hcl.out.rd)
      have hP : ((peekN S j : Int) == 93) = decide (j < S.size ∧ byteN S.data.toList j = 93) := peek_is (c := 93) (by decide)
      rw [HS.out] at hP
      have hjs : j ≤ S.size := hcl.out.rd.in_
      go_wp2_with fail
      refine S1.out.mono ?_
      rintro e w2 ⟨rfl, k2⟩
      have HC2 := hidden (hcl.out.quiet k2)
      clear hcl k2 S1
      by_cases hend : j < S.size ∧ byteN s j = 93
      · rw [decide_eq_true hend] at hP
        have hq : decide (j < S.size) = true := decide_eq_true hend.1
        have HEN := hidden (show endC tn (.ok (B, m, fl) (j + 1)) = RR from by rw [← hE.out, items_end s (by rw [hsl]; exact hend)])
        have hje := hend.1
        clear hend hE
        obtain ⟨c0, c1, c2, f1, f2⟩ := HC2.out.rd.cells
        have fw : IntKind.i64.wrap ((j : Int) + 1) = (j : Int) + 1 := Go.IntWalk.i64_in _ (by omega)
        have HX := hidden (HC2.out.read (Kr.put (i := 1) (Kp.refl _ w2) (.int .i64 ((j + 1 : Nat) : Int))) (HC2.out.rd.put1 (j := j + 1) (by omega)))
        have e1 : ((j + 1 : Nat) : Int) = (j : Int) + 1 := by omega
        rw [e1] at HX
        go_upto_if 106 with (fail)
        clear c0 c1 c2 f1 f2 hP hq
        generalize w2.setCell ⟨r, 1, none⟩ (.int .i64 ((j : Int) + 1)) = w3 at *
        clear HC2
        go_cut [] (fun wx => Hid (Cl w wx r o S (j + 1) d (if tn = true then B.not else B) v))
        case first =>
          cases tn with
          | true =>
            go_wp2_with fail
            go_loopw [107] (fun vi wx => ∃ q : Nat, vi = .int .i64 (q : Int) ∧ q ≤ 4 ∧ Hid (Cl w wx r o S (j + 1) d (B.notN q) v)) (fun vi _ => 4 - (intOf vi).toNat)
            case atStart => exact ⟨0, rfl, by omega, HX⟩
            case round =>
              obtain ⟨q, rfl, hq4, hcq⟩ := hrel
              by_cases hlt : q < 4
              · have q0 : (0 : Int) ≤ (q : Int) := by omega
                have q1 : (q : Int) < 4 := by omega
                obtain ⟨cc, ff⟩ := node_cell hcq.out.node hlt
                have hx := at_fit hcq.out.fit q
                have HQ := hidden (hcq.out.lay (w' := wr.setCell ⟨o, 1 + q, none⟩ (.int .u64 ((18446744073709551615 - (B.notN q).at_ q : Nat) : Int))) (Kr.put (Kp.refl _ _) _) (node_on hcq.out.node hlt fun x => 18446744073709551615 - x) (BS.on_fit hcq.out.fit (fun x hx => by omega) q))
                go_wp2_with fail
                go_region
                rw [xor_all hx]
                have HD := hidden (HQ.out.quiet ((Kp.refl (fun _ => False) _).drewN 1))
                go_wp2_with fail
                go_roundw
                case rel => exact ⟨q + 1, by go_num, by omega, HD⟩
                case measure => simp [intOf]; omega
              · obtain rfl : q = 4 := by omega
                go_wp2_with fail
                go_meet
                exact hcq
          | false =>
            go_wp2_with fail
            go_meet
            exact HX
        case rest =>
          have HCX := hidden hcut.out
          clear hcut HX
          obtain ⟨B', hB'⟩ : ∃ B', (if tn = true then B.not else B) = B' := ⟨_, rfl⟩
          have HEN2 := hidden (show (if m = 0 ∨ fl = true ∨ B'.isZero = true then PR.bad 63 else .ok B' (j + 1)) = RR from by rw [← hB', ← HEN.out]; rfl)
          rw [hB'] at HCX
          clear hB' HEN
          have k1 : wc.cell? ⟨o, 1, none⟩ = some (.int .u64 (B'.a : Int)) := Whole1.cell HCX.out.node 1
          have k2 : wc.cell? ⟨o, 2, none⟩ = some (.int .u64 (B'.b : Int)) := Whole1.cell HCX.out.node 2
          have k3 : wc.cell? ⟨o, 3, none⟩ = some (.int .u64 (B'.c : Int)) := Whole1.cell HCX.out.node 3
          have k4 : wc.cell? ⟨o, 4, none⟩ = some (.int .u64 (B'.d : Int)) := Whole1.cell HCX.out.node 4
          by_cases hm : m = 0
          · have HF := hidden (show RR = .bad 63 from by rw [← HEN2.out, if_pos (.inl hm)])
            subst hm
            go_wp2_with fail
            refine (must_no _ 63 _).mono ?_
            rintro e w5 ⟨hb, rfl⟩
            unfold Bad at hb
            subst hb
            go_wp2_with fail
            rw [HF.out]
            exact ⟨rfl, HCX.out.kp, rfl⟩
          · have hm0 : (0 : Int) < (m : Int) := by omega
            have hmN : 0 < m := by omega
            have HM := hidden hm
            clear hm
            cases fl with
            | true =>
              have HF := hidden (show RR = .bad 63 from by rw [← HEN2.out, if_pos (.inr (.inl rfl))])
              go_wp2_with fail
              refine (must_no _ 63 _).mono ?_
              rintro e w5 ⟨hb, rfl⟩
              unfold Bad at hb
              subst hb
              go_wp2_with fail
              rw [HF.out]
              exact ⟨rfl, HCX.out.kp, rfl⟩
            | false =>
              have eqs := eq_set B'.a B'.b B'.c B'.d wc
              have e2 : (⟨B'.a, B'.b, B'.c, B'.d⟩ : BS) = B' := rfl
              rw [e2] at eqs
              clear e2
              cases hz : B'.isZero with
              | true =>
                have HF := hidden (show RR = .bad 63 from by rw [← HEN2.out, if_pos (.inr (.inr hz))])
                rw [hz] at eqs
                clear hz
                go_wp2_with fail
                refine (must_no _ 63 _).mono ?_
                rintro e w5 ⟨hb, rfl⟩
                unfold Bad at hb
                subst hb
                go_wp2_with fail
                rw [HF.out]
                exact ⟨rfl, HCX.out.kp, rfl⟩
              | false =>
                have HF := hidden (show RR = .ok B' (j + 1) from by rw [← HEN2.out, if_neg (by simp [HM.out, hz])])
                rw [hz] at eqs
                clear hz
                go_wp2_with fail
                refine (must_yes _ _ _).mono ?_
                rintro e w5 ⟨rfl, rfl⟩
                go_wp2_with fail
                go_end0
                rw [HF.out]
                exact ⟨HCX.out.kp, rfl, HCX.out.rd, HCX.out.node, HCX.out.fit⟩
      · rw [decide_eq_false hend] at hP
        have HEN := hidden (show ¬ (j < s.length ∧ byteN s j = 93) from by rw [hsl]; exact hend)
        have S2 := hidden (letter_any r j d S w2 HC2.out.rd)
        rw [HS.out] at S2
        clear hend
        obtain ⟨L, hL⟩ : ∃ L, letP s j = L := ⟨_, rfl⟩
        rw [hL] at S2
        have HL := hidden hL
        clear hL
        by_cases hjl : j < S.size
        · rw [decide_eq_true hjl]
          go_wp2_with fail
          refine S2.out.mono ?_
          rintro e w3 ⟨k3, hy⟩
          cases L with
          | bad c =>
            have hy : Bad c e := hy
            unfold Bad at hy
            subst hy
            have HF := hidden (show Kro r o w w3 ∧ RR = .bad c from ⟨HC2.out.kp.trans (k3.wider fun _ => .inl), by rw [← hE.out, items_bad s HEN.out (item_bad1 HL.out)]; rfl⟩)
            go_wp2_with fail
            rw [HF.out.2]
            exact ⟨rfl, HF.out.1, rfl⟩
          | ok lo j2 =>
            obtain ⟨rfl, hr3, hlo⟩ := hy
            have HC3 := hidden (HC2.out.read k3 hr3)
            have hj2 := let_next HL.out
            rw [hsl] at hj2
            clear k3 hr3 S2 HC2
            obtain ⟨q, hq⟩ : ∃ q, decide (j2 + 1 < S.size ∧ byteN s j2 = 45 ∧ byteN s (j2 + 1) ≠ 93) = q := ⟨_, rfl⟩
            have HQ := hidden hq
            go_wp2_with fail
            obtain ⟨d0, d1, d2, _, _⟩ := HC3.out.rd.cells
            have fw : IntKind.i64.wrap ((j2 : Int) + 1) = (j2 : Int) + 1 := Go.IntWalk.i64_in _ (by omega)
            go_cut [79] (fun vq wx => vq = .bool q ∧ Hid (Cl w wx r o S j2 d B v))
            case first =>
              have HD := fun n : Nat => hidden (HC3.out.quiet ((Kp.refl (fun _ => False) _).drewN n))
              by_cases c1 : j2 + 1 < S.size
              · have i1 : (j2 : Int) + 1 < (S.size : Int) := by omega
                have i2 : (j2 : Int) < (S.size : Int) := by omega
                have i3 : (0 : Int) ≤ (j2 : Int) := by omega
                have i4 : (0 : Int) ≤ (j2 : Int) + 1 := by omega
                have b1 := byteN_at (S := S) (i := j2) (by omega)
                have b2 := byteN_at (S := S) (i := j2 + 1) c1
                rw [HS.out] at b1 b2
                by_cases h45 : byteN s j2 = 45
                · rw [h45] at b1
                  have b1' : (S[j2]'(by omega)).toNat = 45 := b1.symm
                  by_cases h93 : byteN s (j2 + 1) = 93
                  · rw [h93] at b2
                    have b2' : (S[j2 + 1]'c1).toNat = 93 := b2.symm
                    have hqf : q = false := by rw [← hq]; simp [h93]
                    subst hqf
                    clear hq h93 h45 b1 b2
                    go_quiet (fail)
                    go_wp2_with fail
                    go_meet
                    exact ⟨rfl, HD _⟩
                  · have hqt : q = true := by rw [← hq]; simp [h93, h45, c1]
                    obtain ⟨x, hx⟩ : ∃ x, (S[j2 + 1]'c1).toNat = x := ⟨_, rfl⟩
                    have hx1 : ((x : Int) == 93) = false := by simp; omega
                    have hx2 : ¬ (x : Int) = 93 := by omega
                    have hx3 : ¬ x = 93 := by omega
                    subst hqt
                    clear hq h93 h45 b1 b2
                    go_quiet (fail)
                    go_wp2_with fail
                    go_meet
                    exact ⟨congrArg Value.bool (by simp only [bne, hx1]; rfl), HD _⟩
                · have hqf : q = false := by rw [← hq]; simp [h45]
                  obtain ⟨x, hx⟩ : ∃ x, (S[j2]'(show j2 < S.size by omega)).toNat = x := ⟨_, rfl⟩
                  have hx1 : ((x : Int) == 45) = false := by simp; omega
                  have hx2 : ¬ (x : Int) = 45 := by omega
                  have hx3 : ¬ x = 45 := by omega
                  subst hqf
                  clear hq h45 b1 b2
                  go_quiet (fail)
                  go_wp2_with fail
                  go_meet
                  exact ⟨rfl, HD _⟩
              · have hqf : q = false := by rw [← hq]; simp [c1]
                have i1 : ¬ (j2 : Int) + 1 < (S.size : Int) := by omega
                subst hqf
                clear hq
                go_quiet (fail)
                go_wp2_with fail
                go_meet
                exact ⟨rfl, HD _⟩
            case rest =>
              obtain ⟨rfl, hcl4⟩ := hcut
              have HC4 := hidden hcl4.out
              clear hcl4 HC3 d0 d1 d2 hq
              go_upto_if 79 with (fail)
              go_cut [12] (fun vt wx => ∃ (hi k : Nat), vt = .int .u8 (hi : Int) ∧ hi < 256 ∧ j < k ∧ Hid (itemP s j = .ok (lo, hi) k) ∧ Hid (Cl w wx r o S k d B v))
              case first =>
                cases q with
                | false =>
                  have HI := hidden (item_one HL.out (show ¬ (j2 + 1 < s.length ∧ byteN s j2 = 45 ∧ byteN s (j2 + 1) ≠ 93) from by rw [hsl]; exact of_decide_eq_false HQ.out))
                  go_wp2_with fail
                  go_meet
                  exact ⟨lo, j2, rfl, hlo, hj2.1, HI, HC4⟩
                | true =>
                  have hcond : j2 + 1 < S.size ∧ byteN s j2 = 45 ∧ byteN s (j2 + 1) ≠ 93 := of_decide_eq_true HQ.out
                  have HCD := hidden (show j2 + 1 < s.length ∧ byteN s j2 = 45 ∧ byteN s (j2 + 1) ≠ 93 from by rw [hsl]; exact hcond)
                  have h1 := hcond.1
                  clear hcond
                  obtain ⟨d0, d1, d2, f1, f2⟩ := HC4.out.rd.cells
                  obtain ⟨w5, hw5⟩ : ∃ w5, wc.setCell ⟨r, 1, none⟩ (.int .i64 ((j2 : Int) + 1)) = w5 := ⟨_, rfl⟩
                  have HC5 := hidden (show Cl w w5 r o S (j2 + 1) d B v from by
                    have := HC4.out.read (Kr.put (i := 1) (Kp.refl _ wc) (.int .i64 ((j2 + 1 : Nat) : Int))) (HC4.out.rd.put1 (j := j2 + 1) (by omega))
                    rw [show ((j2 + 1 : Nat) : Int) = (j2 : Int) + 1 by omega, hw5] at this
                    exact this)
                  have S3 := hidden (letter_any r (j2 + 1) d S w5 HC5.out.rd)
                  rw [HS.out] at S3
                  obtain ⟨L2, hL2⟩ : ∃ L, letP s (j2 + 1) = L := ⟨_, rfl⟩
                  rw [hL2] at S3
                  have HL2 := hidden hL2
                  have HW5 := hidden hw5
                  clear hL2 hw5
                  go_wp2_with fail
                  rw [HW5.out]
                  refine S3.out.mono ?_
                  rintro e w6 ⟨k6, hy⟩
                  cases L2 with
                  | bad c =>
                    have hy : Bad c e := hy
                    unfold Bad at hy
                    subst hy
                    have HF := hidden (show Kro r o w w6 ∧ RR = .bad c from ⟨HC5.out.kp.trans (k6.wider fun _ => .inl), by rw [← hE.out, items_bad s HEN.out (item_bad2 HL.out HCD.out HL2.out)]; rfl⟩)
                    go_wp2_with fail
                    rw [HF.out.2]
                    exact ⟨rfl, HF.out.1, rfl⟩
                  | ok hi k3 =>
                    obtain ⟨rfl, hr6, hhi⟩ := hy
                    have HC6 := hidden (HC5.out.read k6 hr6)
                    have HI := hidden (item_two HL.out HCD.out HL2.out)
                    have hk3 := let_next HL2.out
                    go_wp2_with fail
                    go_meet
                    exact ⟨hi, k3, rfl, hhi, by omega, HI, HC6⟩
              case rest =>
                obtain ⟨hi, k3, rfl, hhi, hjk, hIt, hcl6⟩ := hcut
                have HC6 := hidden hcl6.out
                have S4 := hidden (put_any o lo hi B v wc HC6.out.node HC6.out.fit hlo hhi)
                have HEN3 := hidden (show endC tn (itemsP s f k3 (B.put lo hi) (m + 1) (fl || decide (hi < lo))) = RR from by rw [← items_more s HEN.out hIt.out]; exact hE.out)
                have hk3 : k3 ≤ S.size := HC6.out.rd.in_
                have fwm : IntKind.i64.wrap ((m : Int) + 1) = (m : Int) + 1 := Go.IntWalk.i64_in _ (by omega)
                clear hcl6 HC4 hE hIt HL HQ HEN fw
                cases fl with
                | true =>
                  go_wp2_with fail
                  refine S4.out.mono ?_
                  rintro e w7 ⟨rfl, hn7, hk7⟩
                  have HC7 := hidden (HC6.out.lay hk7 hn7 (BS.put_fit HC6.out.fit lo hi))
                  clear hn7 hk7 S4 HC6
                  go_wp2_with fail
                  go_roundg f
                  case measure => omega
                  case rel => exact ⟨f, k3, m + 1, B.put lo hi, true, by go_num, rfl, by omega, Nat.le_refl _, by omega, HC7, by simpa using HEN3⟩
                | false =>
                  go_wp2_with fail
                  refine S4.out.mono ?_
                  rintro e w7 ⟨rfl, hn7, hk7⟩
                  have HC7 := hidden (HC6.out.lay hk7 hn7 (BS.put_fit HC6.out.fit lo hi))
                  clear hn7 hk7 S4 HC6
                  go_wp2_with fail
                  go_roundg f
                  case measure => omega
                  case rel => exact ⟨f, k3, m + 1, B.put lo hi, decide (hi < lo), by go_num, by simp, by omega, Nat.le_refl _, by omega, HC7, by simpa using HEN3⟩
        · rw [decide_eq_false hjl]
          have hLb : L = .bad 63 := by rw [← HL.out]; exact if_neg (by rw [hsl]; exact hjl)
          subst hLb
          go_wp2_with fail
          refine S2.out.mono ?_
          rintro e w3 ⟨k3, hy⟩
          have hy : Bad 63 e := hy
          unfold Bad at hy
          subst hy
          have HF := hidden (show Kro r o w w3 ∧ RR = .bad 63 from ⟨HC2.out.kp.trans (k3.wider fun _ => .inl), by rw [← hE.out, items_bad s HEN.out (item_bad1 HL.out)]; rfl⟩)
          go_wp2_with fail
          rw [HF.out.2]
          exact ⟨rfl, HF.out.1, rfl⟩
end Go.Proofs.YthncochjhbmceaaGreat
