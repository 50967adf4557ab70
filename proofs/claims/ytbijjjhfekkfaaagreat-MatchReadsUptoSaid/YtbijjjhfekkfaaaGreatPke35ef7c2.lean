/- The reference's Unquote. Condition: the text is not too long. -/
import Derived.Test.YtbijjjhfekkfaaaGreatPk8339b52f
import Derived.Test.YtbijjjhfekkfaaaGreatPk33371d00
import Derived.Deep.QuietTactic
import Derived.BigQuiet
namespace Go.Proofs.YtbijjjhfekkfaaaGreat
set_option maxRecDepth 100000
open Go.RowKit

/-- the value whose quotation stands at k, and the place behind it -/
def unqO (s : ByteArray) (k : Nat) : Option (List UInt8 × Nat) := if s.data.toList[k]? = some 34 then (parQ (s.data.toList.drop (k + 1))).map fun p => (p.1, k + 1 + p.2) else none
/-- what the reference answers -/
def unqR (s : ByteArray) (k : Nat) : ByteArray × Int := match unqO s k with
  | some (v, n) => (⟨v.toArray⟩, (n : Nat))
  | none => (⟨#[]⟩, -1)

theorem drop_at? {l : List UInt8} {j : Nat} {b : UInt8} (h : l[j]? = some b) : l.drop j = b :: l.drop (j + 1) := by
  obtain ⟨h1, h2⟩ := List.getElem?_eq_some_iff.1 h
  rw [List.drop_eq_getElem_cons h1, h2]
theorem parQ_mark {l : List UInt8} {j : Nat} {b : UInt8} (h : l[j]? = some b) (hb : b.toNat = 34) : parQ (l.drop j) = some ([], 1) := by
  rw [drop_at? h, parQ_cons, if_pos hb]
theorem parQ_out {l : List UInt8} {j : Nat} {b : UInt8} (h : l[j]? = some b) (hn : b.toNat ≠ 34) (hb : b.toNat < 32 ∨ 126 < b.toNat) : parQ (l.drop j) = none := by
  rw [drop_at? h, parQ_cons, if_neg hn, if_pos hb]
theorem parQ_one {l : List UInt8} {j : Nat} {b : UInt8} (h : l[j]? = some b) (hn : b.toNat ≠ 34) (hb : ¬ (b.toNat < 32 ∨ 126 < b.toNat)) (h92 : b.toNat ≠ 92) : parQ (l.drop j) = (parQ (l.drop (j + 1))).map fun p => (b :: p.1, p.2 + 1) := by
  rw [drop_at? h, parQ_cons, if_neg hn, if_neg hb, if_pos h92]
theorem parQ_esc {l : List UInt8} {j : Nat} {b c : UInt8} (h : l[j]? = some b) (h92 : b.toNat = 92) (hc : l[j + 1]? = some c) (hh : c.toNat = 34 ∨ c.toNat = 92) : parQ (l.drop j) = (parQ (l.drop (j + 2))).map fun p => (c :: p.1, p.2 + 2) := by
  rw [drop_at? h, parQ_cons, if_neg (by omega), if_neg (by omega), if_neg (by omega), drop_at? hc]
  dsimp only
  rw [if_pos hh]
theorem parQ_short0 {l : List UInt8} {j : Nat} {b : UInt8} (h : l[j]? = some b) (h92 : b.toNat = 92) (hl : l.length ≤ j + 1) : parQ (l.drop j) = none := by
  rw [drop_at? h, parQ_cons, if_neg (by omega), if_neg (by omega), if_neg (by omega), List.drop_of_length_le hl]
theorem parQ_short {l : List UInt8} {j : Nat} {b c : UInt8} (h : l[j]? = some b) (h92 : b.toNat = 92) (hc : l[j + 1]? = some c) (hh : ¬ (c.toNat = 34 ∨ c.toNat = 92)) (hl : l.length ≤ j + 3) : parQ (l.drop j) = none := by
  rw [drop_at? h, parQ_cons, if_neg (by omega), if_neg (by omega), if_neg (by omega), drop_at? hc]
  dsimp only
  rw [if_neg hh]
  have : (l.drop (j + 1 + 1)).length ≤ 1 := by rw [List.length_drop]; omega
  match hr : l.drop (j + 1 + 1), this with
  | [], _ => rfl
  | [_], _ => rfl
theorem parQ_four {l : List UInt8} {j : Nat} {b c x y : UInt8} (h : l[j]? = some b) (h92 : b.toNat = 92) (hc : l[j + 1]? = some c) (hh : ¬ (c.toNat = 34 ∨ c.toNat = 92)) (hx : l[j + 2]? = some x) (hy : l[j + 3]? = some y) :
    parQ (l.drop j) = if c.toNat ≠ 120 then none else if hexV x < 16 ∧ hexV y < 16 ∧ ¬ (32 ≤ hexV x * 16 + hexV y ∧ hexV x * 16 + hexV y ≤ 126) then (parQ (l.drop (j + 4))).map fun p => (UInt8.ofNat (hexV x * 16 + hexV y) :: p.1, p.2 + 4) else none := by
  rw [drop_at? h, parQ_cons, if_neg (by omega), if_neg (by omega), if_neg (by omega), drop_at? hc]
  dsimp only
  rw [if_neg hh, show j + 1 + 1 = j + 2 from rfl, drop_at? hx, show j + 2 + 1 = j + 3 from rfl, drop_at? hy]
/-- what is read of a quotation: the bytes acc, up to the place j -/
def RelQ (s : ByteArray) (k j : Nat) (acc : List UInt8) : Prop := parQ (s.data.toList.drop (k + 1)) = (parQ (s.data.toList.drop j)).map fun p => (acc ++ p.1, (j - (k + 1)) + p.2)
theorem relQ_start (s : ByteArray) (k : Nat) : RelQ s k (k + 1) [] := by
  unfold RelQ
  cases parQ (s.data.toList.drop (k + 1)) <;> simp
theorem relQ_none {s : ByteArray} {k j : Nat} {acc : List UInt8} (h : RelQ s k j acc) (hn : parQ (s.data.toList.drop j) = none) : parQ (s.data.toList.drop (k + 1)) = none := by rw [h, hn]; rfl
theorem relQ_step {s : ByteArray} {k j d : Nat} {acc : List UInt8} {x : UInt8} (h : RelQ s k j acc) (hj : k + 1 ≤ j) (hp : parQ (s.data.toList.drop j) = (parQ (s.data.toList.drop (j + d))).map fun p => (x :: p.1, p.2 + d)) : RelQ s k (j + d) (acc ++ [x]) := by
  unfold RelQ at h ⊢
  rw [h, hp]
  cases parQ (s.data.toList.drop (j + d)) with
  | none => rfl
  | some p => simp; omega
theorem relQ_done {s : ByteArray} {k j : Nat} {acc : List UInt8} (h : RelQ s k j acc) (hp : parQ (s.data.toList.drop j) = some ([], 1)) : parQ (s.data.toList.drop (k + 1)) = some (acc, j - (k + 1) + 1) := by
  unfold RelQ at h
  rw [h, hp]; simp
theorem unqR_no {s : ByteArray} {k : Nat} (h : unqO s k = none) : unqR s k = (⟨#[]⟩, -1) := by rw [unqR, h]
theorem unqR_none {s : ByteArray} {k j : Nat} {acc : List UInt8} (h : RelQ s k j acc) (hn : parQ (s.data.toList.drop j) = none) : unqR s k = (⟨#[]⟩, -1) := unqR_no (by
  rw [unqO, relQ_none h hn]; simp)
theorem unqR_done {s : ByteArray} {k j : Nat} {acc : List UInt8} (h : RelQ s k j acc) (hj : k + 1 ≤ j) (h34 : s.data.toList[k]? = some 34) (hp : parQ (s.data.toList.drop j) = some ([], 1)) : unqR s k = (⟨acc.toArray⟩, ((j + 1 : Nat) : Int)) := by
  have : unqO s k = some (acc, j + 1) := by rw [unqO, if_pos h34, relQ_done h hp, Option.map_some]; simp; omega
  rw [unqR, this]
theorem hexV_le (b : UInt8) : hexV b ≤ 16 := by
  unfold hexV
  split
  · omega
  · split <;> omega
theorem rvalue_q (b : UInt8) (w : World) : Calls Tryz.prog 124 #[.int .u8 (b.toNat : Int)] w fun e w' => e = .returned (.int .i64 (hexV b : Nat)) ∧ w' = w := (rvalue_any b w).mono fun _ _ h => ⟨h.1, h.2.symm⟩
theorem bytes_back0 {w : World} {v : Value} {B n : Nat} {l : List UInt8} (h : w.ownsRow B 5 1 v n (Lib.byteCells l)) (hl : l.length = n) :
    (convert 254 9 v).run Tryz.prog w = .ok (.string ⟨l.toArray⟩) w := by
  by_cases h0 : l = []
  · subst h0
    rcases h.2 with ⟨rfl, _⟩ | ⟨g, cap, cur, rfl, _⟩
    · exact run_convert_bytes_nil w 254 5 Tryz.underlying254 Tryz.underlying5 0 0 9 Tryz.underlying9
    · subst hl
      exact run_convert_bytes_back w 254 9 5 ⟨g, 0, none⟩ cap [] Tryz.underlying254 Tryz.underlying5 Tryz.underlying9 fun j hj => absurd hj (by simp)
  · exact bytes_back h hl h0

set_option maxHeartbeats 6400000 in
theorem runq_any (s : ByteArray) (k : Nat) (w : World) (hs : s.size ≤ 16777216) (hk : k < 9223372036854775808) :
    Calls Tryz.prog 54 #[.string s, .int .i64 k] w fun e w' => e = .returned (.tuple #[.string (unqR s k).1, .int .i64 (unqR s k).2]) ∧ Below w.heap.size w w' := by
  by_cases h34 : s.data.toList[k]? = some 34
  · have hlt : k < s.size := (List.getElem?_eq_some_iff.1 h34).1
    obtain ⟨b, hbe, hbat⟩ := str_at hlt
    obtain rfl : b = 34 := Option.some.inj (hbat.symm.trans h34)
    have k1 : ¬ (s.size : Int) ≤ (k : Int) := by omega
    have k0 : (0 : Int) ≤ (k : Int) := by omega
    have H34 := hidden h34
    obtain ⟨i0, hi, hz0, hz1, hz2⟩ := info_parts infoByte
    clear h34 hbat
    go_enter Tryz.func54, Tryz.ntmps54
    go_wp2_with fail
    clear hbe
    have hO : (w.alloc (.cells #[] 5)).ownsRow w.heap.size 5 1 (.slice (some ⟨w.heap.size, 0, none⟩) 0 0) 0 (Lib.byteCells []) :=
      ⟨rfl, .inr ⟨w.heap.size, 0, #[], rfl, Nat.le_refl _, Array.getElem?_push_size, Nat.le_refl _, Nat.zero_le _, rfl, rfl⟩⟩
    have hB : Below w.heap.size w (w.alloc (.cells #[] 5)) := (Below.refl _ _).alloc (Nat.le_refl _) _
    generalize w.alloc (.cells #[] 5) = w1 at hO hB ⊢
    obtain ⟨g, hg⟩ : ∃ g, w.heap.size = g := ⟨_, rfl⟩
    have HG := hidden hg
    rw [hg] at hO hB ⊢
    clear hg
    have HI := hidden (show w.heap.size ≤ g by rw [HG.out]; exact Nat.le_refl _)
    go_loopw [6, 7] (fun vo vi wr => ∃ (j : Nat) (acc : List UInt8), vi = .int .i64 j ∧ k + 1 ≤ j ∧ j ≤ s.size ∧ acc.length ≤ j ∧ wr.ownsRow g 5 1 vo acc.length (Lib.byteCells acc) ∧ Hid (RelQ s k j acc) ∧ Below g w wr) (fun _ vi _ => s.size - (intOf vi).toNat)
    case atStart => exact ⟨k + 1, [], by go_num, Nat.le_refl _, by omega, Nat.zero_le _, hO, hidden (relQ_start s k), hB⟩
    case round =>
      obtain ⟨j, acc, rfl, hkj, hj, hal, ho, hR, hbl⟩ := hrel
      have HBL := hidden hbl
      have hbs := hbl.size
      have j0 : (0 : Int) ≤ (j : Int) := by omega
      clear hbl
      by_cases hlt2 : j < s.size
      · have j1 : (j : Int) < (s.size : Int) := by omega
        obtain ⟨b, hbe, hbat⟩ := str_at hlt2
        have h256 := size_lt b
        have HAT := hidden hbat
        clear hbat
        have jw : IntKind.i64.wrap ((j : Int) + 1) = (j : Int) + 1 := Go.IntWalk.i64_in _ (by omega)
        by_cases h1 : b.toNat = 34
        · have e34 : ((b.toNat : Int) == 34) = true := by simp [h1]
          have HU := hidden (unqR_done hR.out hkj H34.out (parQ_mark HAT.out h1))
          have hC := bytes_back0 ho rfl
          clear h1
          go_wp2_with fail
          go_ret2
          rw [HU.out]
          subst g
          exact ⟨by go_num, HBL.out⟩
        · have e34 : ((b.toNat : Int) == 34) = false := by simp; omega
          by_cases h2 : b.toNat < 32 ∨ 126 < b.toNat
          · have hlow : (b.toNat : Int) < 32 ∨ (¬ (b.toNat : Int) < 32 ∧ (126 : Int) < (b.toNat : Int)) := by omega
            have HU := hidden (unqR_none hR.out (parQ_out HAT.out h1 h2))
            clear h1 h2
            rcases hlow with i32 | ⟨i32, i126⟩
            all_goals
              go_wp2_with fail
              go_ret2
              rw [HU.out]
              subst g
              exact ⟨rfl, HBL.out⟩
          · have i32 : ¬ (b.toNat : Int) < 32 := by omega
            have i126 : decide (126 < (b.toNat : Int)) = false := by simp; omega
            by_cases h3 : b.toNat = 92
            · have e92 : ((b.toNat : Int) != 92) = false := by simp [h3]
              have sl : s.data.toList.length = s.size := rfl
              have jw1 : IntKind.i64.wrap ((j : Int) + 1) = (j : Int) + 1 := Go.IntWalk.i64_in _ (by omega)
              have jw3 : IntKind.i64.wrap ((j : Int) + 3) = (j : Int) + 3 := Go.IntWalk.i64_in _ (by omega)
              by_cases hl1 : j + 1 < s.size
              · have l1 : (j : Int) + 1 < (s.size : Int) := by omega
                obtain ⟨c, hce, hcat⟩ := str_at hl1
                have l1t : ((j : Int) + 1).toNat = j + 1 := by omega
                have l10 : (0 : Int) ≤ (j : Int) + 1 := by omega
                by_cases hq : c.toNat = 34 ∨ c.toNat = 92
                · have HR2 := hidden (relQ_step hR.out hkj (parQ_esc HAT.out h3 hcat hq))
                  have jw2 : IntKind.i64.wrap ((j : Int) + 2) = (j : Int) + 2 := Go.IntWalk.i64_in _ (by omega)
                  have hee : ((c.toNat : Int) == 34) = true ∨ (((c.toNat : Int) == 34) = false ∧ ((c.toNat : Int) == 92) = true) := by
                    rcases hq with h | h
                    · exact .inl (by simp [h])
                    · exact .inr ⟨by simp [h], by simp [h]⟩
                  clear h1 h2 h3 hq hcat
                  rcases hee with f34 | ⟨f34, f92⟩
                  all_goals
                    have hby : Lib.byteCells acc ++ [.int .u8 (c.toNat : Int)] = Lib.byteCells (acc ++ [c]) := by rw [Lib.byteCells_append, bytes_one]
                    have HBY := hidden hby
                    have hfr := Row.fresh wr 5 1 1 [.int .u8 (c.toNat : Int)] rfl
                    clear hby
                    go_wp2_with (at_builtin; refine wpList_app _ rfl _ _ 254 rfl g 5 i0 _ 1 1 Tryz.underlying254 hi hz0 hz1 hz2 rfl (by decide) _ _ _ rfl (ho.alloc _) _ _ _ _ _ rfl hfr (by simp [Value.oneCell']) (by unfold maxLen; omega) (by omega) (by have := HG.out; simp; omega) ?_; intro v' w2 hown' hgrow _)
                    rw [HBY.out] at hown'
                    have hB2 : Below g w (wr.alloc (.cells #[.int .u8 (c.toNat : Int)] 5)) := HBL.out.alloc (by have := HG.out; omega) _
                    have HB3 := hidden (hB2.grown hgrow (by have := HG.out; simp; omega) (fun q hq => (ho.lt q hq).1))
                    have HO2 := hidden (show w2.ownsRow g 5 1 v' (acc ++ [c]).length (Lib.byteCells (acc ++ [c])) by simpa using hown')
                    clear hB2 hgrow ho hown' HBY hfr
                    go_wp2_with fail
                    go_roundw
                    case rel => exact ⟨j + 2, acc ++ [c], by go_num, by omega, by omega, by simp; omega, HO2.out, HR2, HB3.out⟩
                    case measure => simp [intOf]; omega
                · have f34 : ((c.toNat : Int) == 34) = false := by simp; omega
                  have f92 : ((c.toNat : Int) == 92) = false := by simp; omega
                  by_cases hl3 : j + 3 < s.size
                  · have l3 : (j : Int) + 3 < (s.size : Int) := by omega
                    have l3n : ¬ (s.size : Int) ≤ (j : Int) + 3 := by omega
                    have l3t : ((j : Int) + 3).toNat = j + 3 := by omega
                    have l30 : (0 : Int) ≤ (j : Int) + 3 := by omega
                    have hl2 : j + 2 < s.size := by omega
                    obtain ⟨x, hxe, hxat⟩ := str_at hl2
                    obtain ⟨y, hye, hyat⟩ := str_at hl3
                    have hP := hidden (parQ_four HAT.out h3 hcat hq hxat hyat)
                    by_cases hc120 : c.toNat = 120
                    · have f120 : ((c.toNat : Int) != 120) = false := by simp [hc120]
                      rw [if_neg (not_not_intro hc120)] at hP
                      have l2 : (j : Int) + 2 < (s.size : Int) := by omega
                      have l2t : ((j : Int) + 2).toNat = j + 2 := by omega
                      have l20 : (0 : Int) ≤ (j : Int) + 2 := by omega
                      have jw2 : IntKind.i64.wrap ((j : Int) + 2) = (j : Int) + 2 := Go.IntWalk.i64_in _ (by omega)
                      clear h1 h2 h3 hq hcat hxat hyat hc120
                      have hX := hexV_le x
                      have hY := hexV_le y
                      have m1 : IntKind.i64.wrap ((hexV x : Int) * 16) = (hexV x : Int) * 16 := Go.IntWalk.i64_in _ (by omega)
                      have m2 : IntKind.i64.wrap ((hexV x : Int) * 16 + (hexV y : Int)) = (hexV x : Int) * 16 + (hexV y : Int) := Go.IntWalk.i64_in _ (by omega)
                      go_wp2_with fail
                      go_quiet (refine Calls.quiet_of_same (rvalue_q _ _))
                      have hoq := own_drewN ho nq
                      have HBq := hidden (below_drewN HBL.out nq)
                      have hqs : wr.heap.size = (wr.drewN nq).heap.size := rfl
                      rw [hqs] at hbs
                      clear ho HBL hqs
                      generalize wr.drewN nq = wq at hoq HBq hbs ⊢
                      by_cases hx16 : hexV x < 16
                      · have x15 : decide ((15 : Int) < (hexV x : Int)) = false := by simp; omega
                        by_cases hy16 : hexV y < 16
                        · have y15 : decide ((15 : Int) < (hexV y : Int)) = false := by simp; omega
                          by_cases hmid : 32 ≤ hexV x * 16 + hexV y ∧ hexV x * 16 + hexV y ≤ 126
                          · have v32 : (32 : Int) ≤ (hexV x : Int) * 16 + (hexV y : Int) := by omega
                            have v126 : (hexV x : Int) * 16 + (hexV y : Int) ≤ 126 := by omega
                            rw [if_neg (fun h => h.2.2 hmid)] at hP
                            have HU := hidden (unqR_none hR.out hP.out)
                            clear hmid hP hx16 hy16
                            go_wp2_with (refine (rvalue_any _ _).mono ?_; rintro e wz ⟨rfl, rfl⟩)
                            go_ret2
                            rw [HU.out]
                            subst g
                            exact ⟨rfl, HBq.out⟩
                          · rw [if_pos ⟨hx16, hy16, hmid⟩] at hP
                            have HR2 := hidden (relQ_step hR.out hkj hP.out)
                            have hvv : decide ((32 : Int) ≤ (hexV x : Int) * 16 + (hexV y : Int)) = false ∨ ((32 : Int) ≤ (hexV x : Int) * 16 + (hexV y : Int) ∧ decide ((hexV x : Int) * 16 + (hexV y : Int) ≤ 126) = false) := by
                              by_cases h : 32 ≤ hexV x * 16 + hexV y
                              · exact .inr ⟨by omega, by simp; omega⟩
                              · exact .inl (by simp; omega)
                            have hval : (UInt8.ofNat (hexV x * 16 + hexV y)).toNat = hexV x * 16 + hexV y := by simp; omega
                            have hbw : IntKind.u8.wrap ((hexV x : Int) * 16 + (hexV y : Int)) = ((UInt8.ofNat (hexV x * 16 + hexV y)).toNat : Int) := by rw [hval, IntKind.wrap_u8']; omega
                            have jw4 : IntKind.i64.wrap ((j : Int) + 4) = (j : Int) + 4 := Go.IntWalk.i64_in _ (by omega)
                            clear hmid hP hx16 hy16 hval
                            generalize UInt8.ofNat (hexV x * 16 + hexV y) = z at HR2 hbw
                            rcases hvv with v32 | ⟨v32, v126⟩
                            all_goals
                              have hby : Lib.byteCells acc ++ [.int .u8 (z.toNat : Int)] = Lib.byteCells (acc ++ [z]) := by rw [Lib.byteCells_append, bytes_one]
                              have HBY := hidden hby
                              have hfr := Row.fresh wq 5 1 1 [.int .u8 (z.toNat : Int)] rfl
                              clear hby
                              go_wp2_with (first | (at_builtin; refine wpList_app _ rfl _ _ 254 rfl g 5 i0 _ 1 1 Tryz.underlying254 hi hz0 hz1 hz2 rfl (by decide) _ _ _ rfl (hoq.alloc _) _ _ _ _ _ rfl hfr (by simp [Value.oneCell']) (by unfold maxLen; omega) (by omega) (by have := HG.out; simp; omega) ?_; intro v' w2 hown' hgrow _) | (refine (rvalue_any _ _).mono ?_; rintro e wz ⟨rfl, rfl⟩))
                              rw [HBY.out] at hown'
                              have hB2 : Below g w (wq.alloc (.cells #[.int .u8 (z.toNat : Int)] 5)) := HBq.out.alloc (by have := HG.out; omega) _
                              have HB3 := hidden (hB2.grown hgrow (by have := HG.out; simp; omega) (fun q hq => (hoq.lt q hq).1))
                              have HO2 := hidden (show w2.ownsRow g 5 1 v' (acc ++ [z]).length (Lib.byteCells (acc ++ [z])) by simpa using hown')
                              clear hB2 hgrow hoq hown' HBY hfr
                              go_wp2_with fail
                              go_roundw
                              case rel => exact ⟨j + 4, acc ++ [z], by go_num, by omega, by omega, by simp; omega, HO2.out, HR2, HB3.out⟩
                              case measure => simp [intOf]; omega
                        · have y15 : decide ((15 : Int) < (hexV y : Int)) = true := by simp; omega
                          rw [if_neg (fun h => hy16 h.2.1)] at hP
                          have HU := hidden (unqR_none hR.out hP.out)
                          clear hP hx16 hy16
                          go_wp2_with (refine (rvalue_any _ _).mono ?_; rintro e wz ⟨rfl, rfl⟩)
                          go_ret2
                          rw [HU.out]
                          subst g
                          exact ⟨rfl, HBq.out⟩
                      · have x15 : decide ((15 : Int) < (hexV x : Int)) = true := by simp; omega
                        rw [if_neg (fun h => hx16 h.1)] at hP
                        have HU := hidden (unqR_none hR.out hP.out)
                        clear hP hx16
                        go_wp2_with (refine (rvalue_any _ _).mono ?_; rintro e wz ⟨rfl, rfl⟩)
                        go_ret2
                        rw [HU.out]
                        subst g
                        exact ⟨rfl, HBq.out⟩
                    · have f120 : ((c.toNat : Int) != 120) = true := by simp; omega
                      rw [if_pos hc120] at hP
                      have HU := hidden (unqR_none hR.out hP.out)
                      clear h1 h2 h3 hq hcat hxat hyat hc120 hxe hye hP
                      go_wp2_with fail
                      go_ret2
                      rw [HU.out]
                      subst g
                      exact ⟨rfl, HBL.out⟩
                  · have l3 : (s.size : Int) ≤ (j : Int) + 3 := by omega
                    have HU := hidden (unqR_none hR.out (parQ_short HAT.out h3 hcat hq (by omega)))
                    clear h1 h2 h3 hq hcat
                    go_wp2_with fail
                    go_ret2
                    rw [HU.out]
                    subst g
                    exact ⟨rfl, HBL.out⟩
              · have l1 : ¬ (j : Int) + 1 < (s.size : Int) := by omega
                have l3 : (s.size : Int) ≤ (j : Int) + 3 := by omega
                have HU := hidden (unqR_none hR.out (parQ_short0 HAT.out h3 (by omega)))
                clear h1 h2 h3
                go_wp2_with fail
                go_ret2
                rw [HU.out]
                subst g
                exact ⟨rfl, HBL.out⟩
            · have e92 : ((b.toNat : Int) != 92) = true := by simp; omega
              have HR2 := hidden (relQ_step hR.out hkj (parQ_one HAT.out h1 h2 h3))
              clear h1 h2 h3
              have hby : Lib.byteCells acc ++ [.int .u8 (b.toNat : Int)] = Lib.byteCells (acc ++ [b]) := by rw [Lib.byteCells_append, bytes_one]
              have HBY := hidden hby
              have hfr := Row.fresh wr 5 1 1 [.int .u8 (b.toNat : Int)] rfl
              clear hby
              go_wp2_with (at_builtin; refine wpList_app _ rfl _ _ 254 rfl g 5 i0 _ 1 1 Tryz.underlying254 hi hz0 hz1 hz2 rfl (by decide) _ _ _ rfl (ho.alloc _) _ _ _ _ _ rfl hfr (by simp [Value.oneCell']) (by unfold maxLen; omega) (by omega) (by have := HG.out; simp; omega) ?_; intro v' w2 hown' hgrow _)
              rw [HBY.out] at hown'
              have hB2 : Below g w (wr.alloc (.cells #[.int .u8 (b.toNat : Int)] 5)) := HBL.out.alloc (by have := HG.out; omega) _
              have HB3 := hidden (hB2.grown hgrow (by have := HG.out; simp; omega) (fun q hq => (ho.lt q hq).1))
              have HO2 := hidden (show w2.ownsRow g 5 1 v' (acc ++ [b]).length (Lib.byteCells (acc ++ [b])) by simpa using hown')
              clear hB2 hgrow ho hown' HBY hfr
              go_wp2_with fail
              go_roundw
              case rel => exact ⟨j + 1, acc ++ [b], by go_num, by omega, by omega, by simp; omega, HO2.out, HR2, HB3.out⟩
              case measure => simp [intOf]; omega
      · obtain rfl : j = s.size := by omega
        have j1 : ¬ (s.size : Int) < (s.size : Int) := by omega
        have HU := hidden (unqR_none hR.out (by rw [List.drop_of_length_le (show s.data.toList.length ≤ s.size from Nat.le_refl _)]; rfl))
        go_wp2_with fail
        go_ret2
        rw [HU.out]
        subst g
        exact ⟨rfl, HBL.out⟩
  · have HU := hidden (unqR_no (s := s) (k := k) (if_neg h34))
    by_cases hlt : k < s.size
    · obtain ⟨b, hbe, hbat⟩ := str_at hlt
      have k1 : ¬ (s.size : Int) ≤ (k : Int) := by omega
      have k0 : (0 : Int) ≤ (k : Int) := by omega
      have n34 : ((b.toNat : Int) != 34) = true := by
        have : b.toNat ≠ 34 := fun e => h34 (by rw [hbat, u8_eq (b := 34) e])
        simp; omega
      clear h34 hbat
      go_enter Tryz.func54, Tryz.ntmps54
      go_wp2_with fail
      go_ret2
      rw [HU.out]
      exact ⟨rfl, Below.refl _ _⟩
    · have k1 : (s.size : Int) ≤ (k : Int) := by omega
      clear h34
      go_enter Tryz.func54, Tryz.ntmps54
      go_wp2_with fail
      go_ret2
      rw [HU.out]
      exact ⟨rfl, Below.refl _ _⟩
end Go.Proofs.YtbijjjhfekkfaaaGreat
