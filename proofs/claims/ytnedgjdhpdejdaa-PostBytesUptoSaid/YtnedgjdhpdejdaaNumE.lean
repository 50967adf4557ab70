/- post.Encode and the reference's: the bytes of rising numbers. Condition: the row is not too long. -/
import Derived.Test.YtnedgjdhpdejdaaNumP
import Derived.Test.YtnedgjdhpdejdaaPostKit
import Derived.Test.YtnedgjdhpdejdaaEncU
import Derived.Test.YtnedgjdhpdejdaaUintR
import Derived.IntWalk
namespace Go.Proofs.Ytnedgjdhpdejdaa
set_option maxRecDepth 100000
open Go.RowKit Go.Shelf

theorem nbytes_eq {a b : ByteArray} (h : a.data.toList = b.data.toList) : a = b := congrArg ByteArray.mk (Array.toList_inj.1 h)
theorem enc_bad {l : List Int} {k : Nat} {x t : Int} {B : List UInt8} {f : Bool} (hs : encS (l.take k) = some (B, t, f)) (hx : l[k]? = some x) (h : x < 0 ∨ (f = false ∧ x ≤ t)) : encN l = ([], 90) := encN_no (encS_none (k := k + 1) (by rw [take_snoc? hx, encS_snoc, hs, stepE_bad h]))
theorem enc_next {l : List Int} {k : Nat} {x t : Int} {B : List UInt8} {f : Bool} (hs : encS (l.take k) = some (B, t, f)) (hx : l[k]? = some x) (h : ¬ (x < 0 ∨ (f = false ∧ x ≤ t))) : encS (l.take (k + 1)) = some (B ++ uintL (x - t).toNat, x, decide (k + 1 = 0)) := by
  rw [take_snoc? hx, encS_snoc, hs, stepE_go h]; simp
theorem int_at {w : World} {A : Option Addr} {n : Nat} {l : List Int} (h : IntF w A n l) {k : Nat} (hk : k < n) : ∃ g o x, A = some ⟨g, o, none⟩ ∧ g < w.heap.size ∧ l[k]? = some x ∧ w.cell? ⟨g, o + k, none⟩ = some (.int .i64 x) ∧ inI x := by
  obtain ⟨g, o, hA, hg, hc⟩ := ints_at h.row (by omega)
  have hl : k < l.length := by rw [h.len]; exact hk
  have hx : l[k]? = some l[k] := List.getElem?_eq_getElem hl
  refine ⟨g, o, l[k], hA, hg, hx, ?_, h.ints _ (List.getElem_mem hl)⟩
  rw [hc k hl]
  simp [List.getD, hx]

set_option maxHeartbeats 3200000 in
theorem nenc_any (A : Option Addr) (n c : Nat) (l : List Int) (w : World) (h : IntF w A n l) (hn : n ≤ 1048576) :
    Calls Try.prog 14 #[.slice A n c] w fun e w' => e = .returned (.tuple #[.string ⟨(encN l).1.toArray⟩, .int .i64 (encN l).2]) ∧ Below w.heap.size w w' := by
  have H := hidden h
  have hu : IntKind.u64.wrap (n : Int) = (n : Int) := Go.IntWalk.u64_in _ (by omega)
  have hut := uintL_ten (v := n) (by omega)
  clear h
  go_enter Try.func14, Try.ntmps14
  go_wp2_with fail
  have hI := bld_new w
  have hB : Below w.heap.size w (w.alloc (.cells #[.pointer none, .slice none 0 0] 59)) := (Below.refl _ _).alloc (Nat.le_refl _) _
  generalize w.alloc (.cells #[.pointer none, .slice none 0 0] 59) = w3 at hI hB ⊢
  obtain ⟨g, hg⟩ : ∃ g, w.heap.size = g := ⟨_, rfl⟩
  have HG := hidden hg
  rw [hg] at hI hB ⊢
  have hU := hidden (uint_any n w3 (by omega))
  go_wp2_with fail
  refine hU.out.mono ?_
  rintro e w4 ⟨rfl, hb4⟩
  have hI4 := bld_below hI hb4
  have hs4 : g ≤ w3.heap.size := by have := hB.size; omega
  have B4 : Below g w w4 := hB.trans (hb4.mono hs4)
  clear hI hU hB hg
  go_wp2_with fail
  refine (bldStr_any g g (Lib.byteCells []) ⟨(uintL n).toArray⟩ w4 hI4 (by simp [Lib.byteCells, ByteArray.size]; omega) (by have := B4.size; have := HG.out; omega)).mono ?_
  rintro e w5 ⟨rfl, hI5, hb5, _⟩
  have hI5' := hidden (show Lib.IsBuilder 59 5 g g (Lib.byteCells (uintL n)) w5 from .inr hI5)
  have B5 := hidden (B4.trans hb5)
  clear hI4 hb4 hs4 B4 hI5 hb5
  go_wp2_with fail
  go_loopw [5, 15] (fun vt vi wr => ∃ (k : Nat) (B : List UInt8) (t : Int), k ≤ n ∧ vt = .int .i64 t ∧ vi = .int .i64 k ∧ Hid (encS (l.take k) = some (B, t, decide (k = 0))) ∧ 0 ≤ t ∧ t ≤ 9223372036854775807 ∧ (k = 0 → t = 0) ∧ B.length ≤ 10 * k ∧ Hid (Lib.IsBuilder 59 5 g g (Lib.byteCells (uintL n ++ B)) wr) ∧ Hid (Below g w wr)) (fun _ vi _ => n - (intOf vi).toNat)
  case atStart => exact ⟨0, [], 0, Nat.zero_le _, rfl, rfl, hidden rfl, Int.le_refl _, by omega, fun _ => rfl, by simp, by simpa [Hid] using hI5', B5⟩
  case round =>
    obtain ⟨k, B, t, hk, rfl, rfl, hes, ht0, ht1, hkt, hBl, hbd, hb⟩ := hrel
    clear hI5' B5
    have k0 : (0 : Int) ≤ (k : Int) := by omega
    have HBW := hidden (show Below w.heap.size w wr by rw [HG.out]; exact hb.out)
    by_cases hlt : k < n
    · have k1 : (k : Int) < (n : Int) := by omega
      obtain ⟨gs, o, x, rfl, _, hx, c0, hxi⟩ := int_at (H.out.on HBW.out) hlt
      obtain ⟨x0, x1⟩ := hxi
      by_cases hbad : x < 0 ∨ (decide (k = 0) = false ∧ x ≤ t)
      · have HU := hidden (enc_bad hes.out hx hbad)
        have hcase : x < 0 ∨ (decide (x < 0) = false ∧ (0 : Int) < (k : Int) ∧ x ≤ t) := by
          by_cases h : x < 0
          · exact .inl h
          · rcases hbad with h2 | ⟨h2, h3⟩
            · exact absurd h2 h
            · have := of_decide_eq_false h2
              exact .inr ⟨decide_eq_false h, by omega, h3⟩
        clear hbad hx hkt hBl
        rcases hcase with q0 | ⟨q0, q1, q2⟩
        all_goals
          go_wp2_with fail
          go_ret2
          rw [HU.out]
          exact ⟨rfl, HBW.out⟩
      · have hx0 : ¬ x < 0 := fun h => hbad (.inl h)
        have q0 : decide (x < 0) = false := decide_eq_false hx0
        have HX0 := hidden (show 0 ≤ x by omega)
        have hxt : t ≤ x := by
          by_cases h : k = 0
          · rw [hkt h]; omega
          · rcases Int.lt_or_le x t with h2 | h2
            · exact absurd (.inr ⟨decide_eq_false h, by omega⟩) hbad
            · exact h2
        have hcase : k = 0 ∨ ((0 : Int) < (k : Int) ∧ decide (x ≤ t) = false) := by
          by_cases h : k = 0
          · exact .inl h
          · exact .inr ⟨by omega, decide_eq_false fun h2 => hbad (.inr ⟨decide_eq_false h, h2⟩)⟩
        have HN := hidden (enc_next hes.out hx hbad)
        obtain ⟨d, hd⟩ : ∃ d : Nat, (x - t).toNat = d := ⟨_, rfl⟩
        rw [hd] at HN
        have ws : IntKind.i64.wrap (x - t) = (d : Int) := by rw [show x - t = (d : Int) by omega]; exact Go.IntWalk.i64_in _ (by omega)
        have wu : IntKind.u64.wrap (d : Int) = (d : Int) := Go.IntWalk.u64_in _ (by omega)
        have hdt := uintL_ten (v := d) (by omega)
        have hgr : g ≤ wr.heap.size := by have := hb.out.size; have := HG.out; omega
        have S1 := hidden (uint_any d wr (by omega))
        clear hbad hx hkt hx0 hd hxt
        rcases hcase with q1 | ⟨q1, q2⟩
        · subst q1
          have c0' : wr.cell? ⟨gs, o, none⟩ = some (.int .i64 x) := c0
          go_wp2_with fail
          refine S1.out.mono ?_
          rintro e wb ⟨rfl, hbB⟩
          have hbd3 := bld_below hbd.out hbB
          have hb3 := hb.out.trans (hbB.mono hgr)
          clear hbd hbB hb
          go_wp2_with fail
          refine (bldStr_any g g _ ⟨(uintL d).toArray⟩ wb hbd3 (by rw [Lib.byteCells_length, List.length_append]; simp only [ByteArray.size, List.size_toArray]; omega) (by have := hb3.size; have := HG.out; omega)).mono ?_
          rintro e wc ⟨rfl, hI6, hb6, _⟩
          have hI7 := hidden (show Lib.IsBuilder 59 5 g g (Lib.byteCells (uintL n ++ (B ++ uintL d))) wc from .inr (by rw [← List.append_assoc, Lib.byteCells_append (uintL n ++ B)]; exact hI6))
          have hb7 := hidden (hb3.trans hb6)
          clear hI6 hb6 hb3 hbd3
          go_wp2_with fail
          go_roundw
          case rel => exact ⟨0 + 1, B ++ uintL d, x, by omega, rfl, by go_num, HN, HX0.out, by omega, fun h => by omega, by rw [List.length_append]; omega, hI7, hb7⟩
          case measure => simp [intOf]; omega
        · have q3 := q1
          go_wp2_with fail
          refine S1.out.mono ?_
          rintro e wb ⟨rfl, hbB⟩
          have hbd3 := bld_below hbd.out hbB
          have hb3 := hb.out.trans (hbB.mono hgr)
          clear hbd hbB hb
          go_wp2_with fail
          refine (bldStr_any g g _ ⟨(uintL d).toArray⟩ wb hbd3 (by rw [Lib.byteCells_length, List.length_append]; simp only [ByteArray.size, List.size_toArray]; omega) (by have := hb3.size; have := HG.out; omega)).mono ?_
          rintro e wc ⟨rfl, hI6, hb6, _⟩
          have hI7 := hidden (show Lib.IsBuilder 59 5 g g (Lib.byteCells (uintL n ++ (B ++ uintL d))) wc from .inr (by rw [← List.append_assoc, Lib.byteCells_append (uintL n ++ B)]; exact hI6))
          have hb7 := hidden (hb3.trans hb6)
          clear hI6 hb6 hb3 hbd3
          go_wp2_with fail
          go_roundw
          case rel => exact ⟨k + 1, B ++ uintL d, x, by omega, rfl, by go_num, HN, HX0.out, by omega, fun h => by omega, by rw [List.length_append]; omega, hI7, hb7⟩
          case measure => simp [intOf]; omega
    · have k2 : ¬ (k : Int) < (n : Int) := by omega
      have hkn : k = n := by omega
      have hne : uintL n ++ B ≠ [] := fun h => uintL_ne n (List.append_eq_nil_iff.1 h).1
      have hln := H.out.len
      have HU := hidden (encN_yes (l := l) (by have h := hes.out; rw [hkn, List.take_of_length_le (by omega)] at h; exact h))
      rw [hln] at HU
      go_wp2_with fail
      refine (bldString_any g g _ wr hbd.out hne).mono ?_
      rintro e wz ⟨rfl, hbz⟩
      go_wp2_with fail
      go_ret2
      rw [HU.out]
      have hBz := hb.out.trans hbz
      rw [← HG.out] at hBz
      exact ⟨rfl, hBz⟩

set_option maxHeartbeats 3200000 in
theorem rnenc_any (A : Option Addr) (n c : Nat) (l : List Int) (w : World) (h : IntF w A n l) (hn : n ≤ 1048576) :
    Calls Try.prog 15 #[.slice A n c] w fun e w' => e = .returned (.tuple #[.string ⟨(encN l).1.toArray⟩, .int .i64 (encN l).2]) ∧ Below w.heap.size w w' := by
  have H := hidden h
  have hu : IntKind.u64.wrap (n : Int) = (n : Int) := Go.IntWalk.u64_in _ (by omega)
  have hut := uintL_ten (v := n) (by omega)
  clear h
  go_enter Try.func15, Try.ntmps15
  go_wp2_with fail
  refine (uintR_any n w (by omega)).mono ?_
  rintro e w3 ⟨rfl, b3⟩
  have HB3 := hidden b3
  clear b3
  go_wp2_with fail
  go_loopw [4, 5, 6] (fun vs vt vi wr => ∃ (k : Nat) (B : List UInt8) (t : Int) (s : ByteArray), k ≤ n ∧ vs = .string s ∧ vt = .int .i64 t ∧ vi = .int .i64 k ∧ Hid (s = ⟨(uintL n ++ B).toArray⟩) ∧ s.size ≤ 10 + 10 * k ∧ Hid (encS (l.take k) = some (B, t, decide (k = 0))) ∧ 0 ≤ t ∧ t ≤ 9223372036854775807 ∧ (k = 0 → t = 0) ∧ Hid (Below w.heap.size w wr)) (fun _ _ vi _ => n - (intOf vi).toNat)
  case atStart => exact ⟨0, [], 0, _, Nat.zero_le _, rfl, rfl, rfl, hidden (by simp), by show (uintL n).length ≤ _; omega, hidden rfl, Int.le_refl _, by omega, fun _ => rfl, HB3⟩
  case round =>
    obtain ⟨k, B, t, s, hk, rfl, rfl, rfl, hs, hss, hes, ht0, ht1, hkt, hb⟩ := hrel
    have k0 : (0 : Int) ≤ (k : Int) := by omega
    by_cases hlt : k < n
    · have k1 : (k : Int) < (n : Int) := by omega
      obtain ⟨gs, o, x, rfl, hgl, hx, c0, hxi⟩ := int_at (H.out.on hb.out) hlt
      obtain ⟨x0, x1⟩ := hxi
      by_cases hbad : x < 0 ∨ (decide (k = 0) = false ∧ x ≤ t)
      · have HU := hidden (enc_bad hes.out hx hbad)
        have hcase : x < 0 ∨ (decide (x < 0) = false ∧ (0 : Int) < (k : Int) ∧ x ≤ t) := by
          by_cases h : x < 0
          · exact .inl h
          · rcases hbad with h2 | ⟨h2, h3⟩
            · exact absurd h2 h
            · have := of_decide_eq_false h2
              exact .inr ⟨decide_eq_false h, by omega, h3⟩
        clear hbad hx hkt
        rcases hcase with q0 | ⟨q0, q1, q2⟩
        all_goals
          go_wp2_with fail
          go_ret2
          rw [HU.out]
          exact ⟨rfl, hb.out⟩
      · have hx0 : ¬ x < 0 := fun h => hbad (.inl h)
        have q0 : decide (x < 0) = false := decide_eq_false hx0
        have HX0 := hidden (show 0 ≤ x by omega)
        have hxt : t ≤ x := by
          by_cases h : k = 0
          · rw [hkt h]; omega
          · rcases Int.lt_or_le x t with h2 | h2
            · exact absurd (.inr ⟨decide_eq_false h, by omega⟩) hbad
            · exact h2
        have hcase : k = 0 ∨ ((0 : Int) < (k : Int) ∧ decide (x ≤ t) = false) := by
          by_cases h : k = 0
          · exact .inl h
          · exact .inr ⟨by omega, decide_eq_false fun h2 => hbad (.inr ⟨decide_eq_false h, h2⟩)⟩
        have HN := hidden (enc_next hes.out hx hbad)
        obtain ⟨d, hd⟩ : ∃ d : Nat, (x - t).toNat = d := ⟨_, rfl⟩
        rw [hd] at HN
        have ws : IntKind.i64.wrap (x - t) = (d : Int) := by rw [show x - t = (d : Int) by omega]; exact Go.IntWalk.i64_in _ (by omega)
        have wu : IntKind.u64.wrap (d : Int) = (d : Int) := Go.IntWalk.u64_in _ (by omega)
        have hdt := uintL_ten (v := d) (by omega)
        obtain ⟨U, hU⟩ : ∃ U, (⟨(uintL d).toArray⟩ : ByteArray) = U := ⟨_, rfl⟩
        have hUs : U.size ≤ 10 := by rw [← hU]; exact hdt
        have hs2 : Hid (s ++ U = ⟨(uintL n ++ (B ++ uintL d)).toArray⟩) := by
          rw [Hid, hs.out, ← hU]; exact nbytes_eq (by simp)
        have hs3 : (s ++ U).size ≤ 10 + 10 * (k + 1) := by rw [ByteArray.size_append]; omega
        have HS3 := hidden hs3
        have S1 := hidden (fun W => uintR_any d W (by omega))
        rw [hU] at S1
        have hlim : ¬ 9223372036854775807 < s.size + U.size := by omega
        clear hbad hx hkt hx0 hd hxt hU hs3
        rcases hcase with q1 | ⟨q1, q2⟩
        · subst q1
          have c0' : wr.cell? ⟨gs, o, none⟩ = some (.int .i64 x) := c0
          go_wp2_with fail
          refine (S1.out _).mono ?_
          rintro e wb ⟨rfl, hbB⟩
          have hb3 := hidden (hb.out.trans (hbB.mono hb.out.size))
          have c1 : wb.cell? ⟨gs, o, none⟩ = some (.int .i64 x) := (hbB.cell (p := ⟨gs, o, none⟩) hgl).trans c0'
          clear hbB hb c0 c0'
          go_wp2_with fail
          go_roundw
          case rel => exact ⟨0 + 1, B ++ uintL d, x, _, by omega, rfl, rfl, by go_num, hs2, HS3.out, HN, HX0.out, by omega, fun h => by omega, hb3⟩
          case measure => simp [intOf]; omega
        · have q3 := q1
          go_wp2_with fail
          refine (S1.out _).mono ?_
          rintro e wb ⟨rfl, hbB⟩
          have hb3 := hidden (hb.out.trans (hbB.mono hb.out.size))
          have c1 : wb.cell? ⟨gs, o + k, none⟩ = some (.int .i64 x) := (hbB.cell (p := ⟨gs, o + k, none⟩) hgl).trans c0
          clear hbB hb c0
          go_wp2_with fail
          go_roundw
          case rel => exact ⟨k + 1, B ++ uintL d, x, _, by omega, rfl, rfl, by go_num, hs2, HS3.out, HN, HX0.out, by omega, fun h => by omega, hb3⟩
          case measure => simp [intOf]; omega
    · have k2 : ¬ (k : Int) < (n : Int) := by omega
      have hkn : k = n := by omega
      have hln := H.out.len
      have HU := hidden (encN_yes (l := l) (by have h := hes.out; rw [hkn, List.take_of_length_le (by omega)] at h; exact h))
      rw [hln] at HU
      go_wp2_with fail
      go_ret2
      rw [HU.out, hs.out]
      exact ⟨rfl, hb.out⟩
end Go.Proofs.Ytnedgjdhpdejdaa
