/- labels.Unquote, walked: the value of a quotation and the place behind it. Condition: the text is not too long. -/
import Derived.Test.YtbijjjhfekkfaaaGreatPke35ef7c2
import Derived.Test.YtbijjjhfekkfaaaGreatPkc0bd2478
namespace Go.Proofs.YtbijjjhfekkfaaaGreat
set_option maxRecDepth 100000
open Go.RowKit

theorem parQ_what {s : ByteArray} {k : Nat} {u : List UInt8} {n : Nat} (h : parQ (s.data.toList.drop (k + 1)) = some (u, n)) : ∃ t, s.data.toList.drop (k + 1) = quoL u ++ 34 :: t ∧ n = (quoL u).length + 1 := parQ_form _ _ _ h
/-- what labels.Unquote answers -/
def unqP (s : ByteArray) (a : Int) : ByteArray × Int × Int := if 0 ≤ a then (match unqO s a.toNat with
  | some (v, n) => (⟨v.toArray⟩, (n : Nat), 0)
  | none => (⟨#[]⟩, 0, 21)) else (⟨#[]⟩, 0, 21)
theorem unqP_no {s : ByteArray} {k : Nat} (h : unqO s k = none) : unqP s (k : Int) = (⟨#[]⟩, 0, 21) := by
  rw [unqP, if_pos (by omega), Int.toNat_natCast, h]
theorem unqP_yes {s : ByteArray} {k n : Nat} {v : List UInt8} (h : unqO s k = some (v, n)) : unqP s (k : Int) = (⟨v.toArray⟩, ((n : Nat) : Int), 0) := by
  rw [unqP, if_pos (by omega), Int.toNat_natCast, h]
theorem unqR_yes {s : ByteArray} {k n : Nat} {v : List UInt8} (h : unqO s k = some (v, n)) : unqR s k = (⟨v.toArray⟩, ((n : Nat) : Int)) := by rw [unqR, h]
theorem unqP_neg {s : ByteArray} {a : Int} (h : a < 0) : unqP s a = (⟨#[]⟩, 0, 21) := by rw [unqP, if_neg (by omega)]

theorem sindex_q (s : ByteArray) (b : UInt8) (w : World) : Calls Tryz.prog 117 #[.string s, .int .u8 (b.toNat : Int)] w fun e w' => e = .returned (.int .i64 (Lib.indexByte s.data.toList b)) ∧ w' = w := (sindex_any s b w).mono fun _ _ h => ⟨h.1, h.2.symm⟩
def strLen : Value → Nat
  | .string s => s.size
  | _ => 0
theorem list_at0 {l : List UInt8} {c : UInt8} (h : l[0]? = some c) : l = c :: l.drop 1 := by
  cases l with
  | nil => cases h
  | cons x r => injection h with h; subst h; rfl
theorem looStep_1 {l : List UInt8} {c : UInt8} (h : l[0]? = some c) (hc : c.toNat ≠ 92 ∨ l.length ≤ 1) : looStep l = (c, l.drop 1) := by
  rw [list_at0 h]
  match hr : l.drop 1 with
  | [] => rfl
  | d :: r =>
    have hn : ¬ c.toNat = 92 := by
      rcases hc with h | h
      · exact h
      · have := congrArg List.length hr
        simp at this; omega
    simp [looStep, hn]
theorem looStep_2 {l : List UInt8} {c d : UInt8} (h : l[0]? = some c) (hc : c.toNat = 92) (h2 : l[1]? = some d) (hd : d.toNat ≠ 120 ∨ l.length ≤ 3) : looStep l = (d, l.drop 2) := by
  match l, h, h2, hd with
  | x :: y :: r, h, h2, hd =>
    injection h with h; injection h2 with h2
    subst h; subst h2
    by_cases hy : y.toNat = 120
    · have hl : r.length ≤ 1 := by
        rcases hd with h | h
        · exact absurd hy h
        · simp at h; omega
      match r, hl with
      | [], _ => simp [looStep, hc, hy]
      | [_], _ => simp [looStep, hc, hy]
    · simp [looStep, hc, hy]
theorem looStep_4 {l : List UInt8} {c d x y : UInt8} (h : l[0]? = some c) (hc : c.toNat = 92) (h2 : l[1]? = some d) (hd : d.toNat = 120) (h3 : l[2]? = some x) (h4 : l[3]? = some y) : looStep l = (hexB x y, l.drop 4) := by
  match l, h, h2, h3, h4 with
  | a :: b :: e :: f :: r, h, h2, h3, h4 =>
    injection h with h; injection h2 with h2; injection h3 with h3; injection h4 with h4
    subst h; subst h2; subst h3; subst h4
    simp [looStep, hc, hd]

theorem ext_drop (R : ByteArray) (n : Nat) : (R.extract n R.size).data.toList = R.data.toList.drop n := by
  rw [ByteArray.data_extract, Array.toList_extract]
  simp only [List.extract]
  exact List.take_of_length_le (by rw [List.length_drop]; exact Nat.le_refl _)
theorem ext_size {R : ByteArray} {n : Nat} (h : n ≤ R.size) : (R.extract n R.size).size + n = R.size := by
  have e := congrArg List.length (ext_drop R n)
  rw [List.length_drop] at e
  have e1 : (R.extract n R.size).data.toList.length = (R.extract n R.size).size := rfl
  have e2 : R.data.toList.length = R.size := rfl
  omega
/-- one round of the loose reading, over the rest that is cut -/
theorem loo_next {l acc : List UInt8} {R : ByteArray} {c b : UInt8} {n : Nat} (hL : Loo l acc R.data.toList) (hc : R.data.toList[0]? = some c) (h1 : c.toNat ≠ 34) (hs : looStep R.data.toList = (b, R.data.toList.drop n)) : Loo l (acc ++ [b]) (R.extract n R.size).data.toList := by
  have hne : R.data.toList ≠ [] := fun e => by rw [e] at hc; cases hc
  have h := hL.more hne (by
    rw [List.head?_eq_getElem?, hc]
    intro e
    injection e with e
    exact h1 (by rw [e]; rfl))
  rw [hs] at h
  rw [ext_drop]; exact h

theorem ix_tab : ∀ H L : Fin 17, bits .or .i64 (wrap64 ((if H.val < 16 then (H.val : Int) else -1) * 16)) (if L.val < 16 then (L.val : Int) else -1) % 256 = ((UInt8.ofNat (((if H.val < 16 then H.val else 255) * 16 % 256) ||| (if L.val < 16 then L.val else 255))).toNat : Int) := by decide +kernel
theorem ix_or (x y : UInt8) : bits .or .i64 (wrap64 (Lib.indexByte [48, 49, 50, 51, 52, 53, 54, 55, 56, 57, 97, 98, 99, 100, 101, 102] x * 16)) (Lib.indexByte [48, 49, 50, 51, 52, 53, 54, 55, 56, 57, 97, 98, 99, 100, 101, 102] y) % 256 = ((hexB x y).toNat : Int) := by
  have h1 := digits_ix x
  have h2 := digits_ix y
  rw [show digits16.data.toList = [48, 49, 50, 51, 52, 53, 54, 55, 56, 57, 97, 98, 99, 100, 101, 102] from rfl] at h1 h2
  rw [h1, h2]
  exact ix_tab ⟨hexV x, by have := hexV_le x; omega⟩ ⟨hexV y, by have := hexV_le y; omega⟩
/-- where the loose reading ends otherwise than a right quotation, there is none -/
theorem loo_no {s : ByteArray} {k : Nat} {acc r : List UInt8} (hL : Loo (s.data.toList.drop (k + 1)) acc r) (he : r = [] ∨ r.head? = some 34) (hn : ∀ t, r ≠ 34 :: t) : unqO s k = none := by
  unfold unqO
  split
  · cases hp : parQ (s.data.toList.drop (k + 1)) with
    | none => rfl
    | some p =>
      obtain ⟨u, n⟩ := p
      obtain ⟨t, h1, _⟩ := parQ_form _ _ _ hp
      rw [h1] at hL
      exact absurd (loo_end hL he).2 (hn t)
  · rfl

theorem ext_list (s : ByteArray) (k e : Nat) : (s.extract k e).data.toList = (s.data.toList.drop k).take (e - k) := by
  rw [ByteArray.data_extract, Array.toList_extract]
/-- no quotation stands there: what is cut out is none -/
theorem unq_ne {s : ByteArray} {k : Nat} (hp : unqO s k = none) (h34 : s.data.toList[k]? = some 34) (e : Nat) (acc : List UInt8) : s.extract k e ≠ ⟨(quoteL acc).toArray⟩ := by
  intro h
  have h2 := congrArg (fun b => b.data.toList) h
  simp only at h2
  rw [ext_list, drop_at? h34] at h2
  obtain ⟨m, hm⟩ : ∃ m, e - k = m := ⟨_, rfl⟩
  rw [hm] at h2
  cases m with
  | zero => simp [quoteL] at h2
  | succ m =>
    rw [List.take_succ_cons, quoteL, List.cons.injEq] at h2
    have h3 := List.take_append_drop m (s.data.toList.drop (k + 1))
    rw [h2.2, List.append_assoc] at h3
    unfold unqO at hp
    rw [if_pos h34, ← h3, List.singleton_append, parQ_quo] at hp
    cases hp
/-- a quotation stands there: it is what the loose reading has read -/
theorem unq_eq {s R : ByteArray} {k n : Nat} {acc v : List UInt8} (hp : unqO s k = some (v, n)) (hL : Loo (s.data.toList.drop (k + 1)) acc R.data.toList) (hh : R.data.toList.head? = some 34) : acc = v ∧ n + R.size = s.size + 1 ∧ s.extract k n = ⟨(quoteL acc).toArray⟩ := by
  unfold unqO at hp
  split at hp
  · rename_i h34
    cases hq : parQ (s.data.toList.drop (k + 1)) with
    | none => rw [hq] at hp; cases hp
    | some p =>
      obtain ⟨u, m⟩ := p
      rw [hq] at hp
      simp only [Option.map_some, Option.some.injEq, Prod.mk.injEq] at hp
      obtain ⟨rfl, rfl⟩ := hp
      obtain ⟨t, h1, rfl⟩ := parQ_form _ _ _ hq
      have hk := (List.getElem?_eq_some_iff.1 h34).1
      rw [h1] at hL
      obtain ⟨rfl, h2⟩ := loo_end hL (.inr hh)
      have hl := congrArg List.length h1
      have hl2 := congrArg List.length h2
      have e1 : R.data.toList.length = R.size := rfl
      have e2 : s.data.toList.length = s.size := rfl
      simp only [List.length_drop, List.length_append, List.length_cons] at hl hl2
      refine ⟨rfl, by omega, bytes_eq ?_⟩
      rw [ext_list, drop_at? h34, h1, show k + 1 + ((quoL acc).length + 1) - k = (quoL acc).length + 2 by omega]
      have e3 : (34 : UInt8) :: (quoL acc ++ 34 :: t) = quoteL acc ++ t := by simp [quoteL]
      rw [e3, show (quoL acc).length + 2 = (quoteL acc).length by simp [quoteL], List.take_left]
  · cases hp

set_option maxHeartbeats 3200000 in
theorem unquote_any (s : ByteArray) (a : Int) (w : World) (hs : s.size ≤ 16777216) (ha : -9223372036854775808 ≤ a) (ha2 : a < 9223372036854775808) :
    Calls Tryz.prog 50 #[.string s, .int .i64 a] w fun e w' => e = .returned (.tuple #[.string (unqP s a).1, .int .i64 (unqP s a).2.1, .int .i64 (unqP s a).2.2]) ∧ Below w.heap.size w w' := by
  by_cases hneg : a < 0
  · have HU := hidden (unqP_neg (s := s) hneg)
    go_enter Tryz.func50, Tryz.ntmps50
    go_wp2_with fail
    go_ret3
    rw [HU.out]
    exact ⟨rfl, Below.refl _ _⟩
  · obtain ⟨k, rfl⟩ : ∃ k : Nat, a = k := ⟨a.toNat, by omega⟩
    have k0 : ¬ (k : Int) < 0 := hneg
    have k0' : (0 : Int) ≤ (k : Int) := by omega
    by_cases h34 : s.data.toList[k]? = some 34
    · have hlt : k < s.size := (List.getElem?_eq_some_iff.1 h34).1
      obtain ⟨b, hbe, hbat⟩ := str_at hlt
      obtain rfl : b = 34 := Option.some.inj (hbat.symm.trans h34)
      have k1 : ¬ (s.size : Int) ≤ (k : Int) := by omega
      have kw : IntKind.i64.wrap ((k : Int) + 1) = (k : Int) + 1 := Go.IntWalk.i64_in _ (by omega)
      have kt : ((k : Int) + 1).toNat = k + 1 := by omega
      have kk0 : (0 : Int) ≤ (k : Int) + 1 := by omega
      have kk1 : (k : Int) + 1 ≤ (s.size : Int) := by omega
      have H34 := hidden h34
      obtain ⟨i0, hi, hz0, hz1, hz2⟩ := info_parts infoByte
      obtain ⟨R0, hR0⟩ : ∃ R, s.extract (k + 1) s.size = R := ⟨_, rfl⟩
      clear h34 hbat hneg
      go_enter Tryz.func50, Tryz.ntmps50
      go_wp2_with fail
      clear hbe
      have HR0 : Hid (R0.data.toList = s.data.toList.drop (k + 1)) := by
        rw [Hid, ← hR0, ByteArray.data_extract, Array.toList_extract]
        simp only [List.extract]
        exact List.take_of_length_le (by rw [List.length_drop]; exact Nat.le_refl _)
      have hR0s : R0.size + (k + 1) = s.size := by
        have := congrArg List.length HR0.out
        rw [List.length_drop] at this
        have e1 : R0.data.toList.length = R0.size := rfl
        have e2 : s.data.toList.length = s.size := rfl
        omega
      go_loopw [7, 8] (fun vv vr wr => ∃ (acc : List UInt8) (R : ByteArray), vr = .string R ∧ Hid (Loo (s.data.toList.drop (k + 1)) acc R.data.toList) ∧ acc.length + R.size + (k + 1) ≤ s.size ∧ wr.ownsRow w.heap.size 5 1 vv acc.length (Lib.byteCells acc) ∧ Below w.heap.size w wr) (fun _ vr _ => strLen vr)
      case atStart => exact ⟨[], R0, rfl, hidden (by rw [HR0.out]; exact .here), by simp; omega, World.ownsRow_nil _ _ _ _, Below.refl _ _⟩
      case round =>
        obtain ⟨acc, R, rfl, hL, hsz, ho, hbl⟩ := hrel
        obtain ⟨vv, hvv⟩ : ∃ vv, vv = u7 := ⟨_, rfl⟩
        subst hvv
        have HBL := hidden hbl
        have hbs := hbl.size
        clear hbl
        by_cases he : R.size = 0
        · obtain rfl : R = ⟨#[]⟩ := by
            have : R.data.size = 0 := he
            exact congrArg ByteArray.mk (Array.eq_empty_of_size_eq_zero this)
          have HU := hidden (unqP_no (s := s) (k := k) (loo_no hL.out (.inl rfl) (fun t e => by cases e)))
          go_wp2_with fail
          go_quiet (fail)
          go_wp2_with fail
          go_ret3
          rw [HU.out]
          exact ⟨rfl, below_drewN HBL.out _⟩
        · have rl : R.data.toList.length = R.size := rfl
          have hne : R.toList.isEmpty = false := by
            rw [Lib.toList_data, List.isEmpty_eq_false_iff]
            intro e
            exact he (congrArg List.length e)
          have hpos : 0 < R.size := by omega
          have p0 : (0 : Int) < (R.size : Int) := by omega
          obtain ⟨c, hce, hcat⟩ := str_at hpos
          have HC := hidden hcat
          clear hcat
          by_cases h1 : c.toNat = 34
          · have e34 : ((c.toNat : Int) != 34) = false := by simp [h1]
            obtain ⟨Q, hQ⟩ : ∃ Q, (⟨(quoteL acc).toArray⟩ : ByteArray) = Q := ⟨_, rfl⟩
            obtain ⟨e, hee⟩ : ∃ e, s.size - R.size + 1 = e := ⟨_, rfl⟩
            obtain ⟨E, hE⟩ : ∃ E, s.extract k e = E := ⟨_, rfl⟩
            have ez : (s.size : Int) - (R.size : Int) + 1 = (e : Int) := by omega
            have ew : IntKind.i64.wrap ((s.size : Int) - (R.size : Int)) = (s.size : Int) - (R.size : Int) := Go.IntWalk.i64_in _ (by omega)
            have ew2 : IntKind.i64.wrap ((s.size : Int) - (R.size : Int) + 1) = (e : Int) := by rw [ez]; exact Go.IntWalk.i64_in _ (by omega)
            have e0 : (0 : Int) ≤ (e : Int) := by omega
            have e1 : (k : Int) ≤ (e : Int) := by omega
            have e2 : (e : Int) ≤ (s.size : Int) := by omega
            have S1 := hidden (fun W => lquote_any ⟨acc.toArray⟩ W (by show acc.length * 4 + 2 ≤ _; omega))
            simp only at S1
            rw [hQ] at S1
            have HS := hidden (fun W (hW : Below wr.heap.size wr W) => bytes_back0 (own_below ho hW (Nat.le_refl _)) rfl)
            have hh34 : R.data.toList.head? = some 34 := by
              rw [List.head?_eq_getElem?, HC.out, u8_eq (b := 34) h1]
            cases hp : unqO s k with
            | none =>
              have HU := hidden (unqP_no hp)
              have hNE : (Q.toList == E.toList) = false := by
                rw [Lib.toList_data, Lib.toList_data]
                exact beq_eq_false_iff_ne.2 fun h => unq_ne hp H34.out e acc (by rw [hE, hQ]; exact bytes_eq h.symm)
              clear hp h1 hh34
              go_wp2_with fail
              go_region_held3 (fun w' => (convert 254 9 vv).run Tryz.prog w' = .ok (.string ⟨acc.toArray⟩) w')
                (first | exact HS.out _ (Below.refl _ _) | exact HS.out _ (Below.refl _ _).drew | exact HS.out _ (by assumption))
                (first | (go_at_call 57; refine (S1.out _).mono ?_; rintro e9 w9 ⟨rfl, b9⟩; have b10 : Below wr.heap.size wr w9 := (Below.refl _ _).drew.trans b9))
              go_wp2_with fail
              go_ret3
              rw [HU.out]
              exact ⟨rfl, HBL.out.trans (b10.mono hbs)⟩
            | some p =>
              obtain ⟨v, n⟩ := p
              obtain ⟨rfl, hne2, hEQ⟩ := unq_eq hp hL.out hh34
              have HU := hidden (unqP_yes hp)
              obtain rfl : E = Q := by rw [← hE, ← hQ, ← hEQ]; congr 1; omega
              clear hp h1 hh34
              go_wp2_with fail
              go_region_held3 (fun w' => (convert 254 9 vv).run Tryz.prog w' = .ok (.string ⟨acc.toArray⟩) w')
                (first | exact HS.out _ (Below.refl _ _) | exact HS.out _ (Below.refl _ _).drew | exact HS.out _ (by assumption))
                (first | (go_at_call 57; refine (S1.out _).mono ?_; rintro e9 w9 ⟨rfl, b9⟩; have b10 : Below wr.heap.size wr w9 := (Below.refl _ _).drew.trans b9))
              have hC2 := HS.out _ b10
              go_wp2_with fail
              go_ret3
              rw [HU.out]
              exact ⟨by rw [show n = e by omega]; rfl, HBL.out.trans (b10.mono hbs)⟩
          · have e34 : ((c.toNat : Int) != 34) = true := by simp; omega
            by_cases h92 : c.toNat = 92
            · have e92 : ((c.toNat : Int) == 92) = true := by simp [h92]
              by_cases hl1 : 1 < R.size
              · have l1 : (1 : Int) < (R.size : Int) := by omega
                obtain ⟨d, hde, hdat⟩ := str_at hl1
                by_cases h120 : d.toNat = 120
                · have e120 : ((d.toNat : Int) == 120) = true := by simp [h120]
                  by_cases hl3 : 3 < R.size
                  · have l3 : (3 : Int) < (R.size : Int) := by omega
                    have l2 : (2 : Int) < (R.size : Int) := by omega
                    have hl2 : 2 < R.size := by omega
                    obtain ⟨x, hxe, hxat⟩ := str_at hl2
                    obtain ⟨y, hye, hyat⟩ := str_at hl3
                    have HL2 := hidden (loo_next hL.out HC.out h1 (looStep_4 HC.out h92 hdat h120 hxat hyat))
                    clear hdat hxat hyat h1
                    go_wp2_with fail
                    go_quiet (refine Calls.quiet_of_same (sindex_q _ _ _))
                    simp only [ix_or x y]
                    have how := own_drewN ho nq
                    have hbl2 := below_drewN HBL.out nq
                    have hws : wr.heap.size = (wr.drewN nq).heap.size := rfl
                    rw [hws] at hbs
                    generalize wr.drewN nq = wq at how hbl2 hbs ⊢
                    clear ho HBL hws h92 h120
                    have ho := how
                    have HBL := hidden hbl2
                    clear how hbl2
                    generalize hexB x y = z at HL2 ⊢
                    have hx1 := ext_size (R := R) (n := 4) (by omega)
                    obtain ⟨R1, hR1⟩ : ∃ R1, R.extract 4 R.size = R1 := ⟨_, rfl⟩
                    rw [hR1] at HL2 hx1
                    have HBY : Hid (Lib.byteCells acc ++ [.int .u8 (z.toNat : Int)] = Lib.byteCells (acc ++ [z])) := by rw [Hid, Lib.byteCells_append, bytes_one]
                    have hfr := Row.fresh wq 5 1 1 [.int .u8 (z.toNat : Int)] rfl
                    have n0 : (4 : Int) ≤ (R.size : Int) := by omega
                    go_wp2_with (at_builtin; refine wpList_app _ rfl _ _ 254 rfl w.heap.size 5 i0 _ 1 1 Tryz.underlying254 hi hz0 hz1 hz2 rfl (by decide) _ _ _ rfl (ho.alloc _) _ _ _ _ _ rfl hfr (by simp [Value.oneCell']) (by unfold maxLen; omega) (by omega) (by simp; omega) ?_; intro v' w2 hown' hgrow _)
                    rw [HBY.out] at hown'
                    have hB2 : Below w.heap.size w (wq.alloc (.cells #[.int .u8 (z.toNat : Int)] 5)) := HBL.out.alloc (by omega) _
                    have HB3 := hidden (hB2.grown hgrow (by simp; omega) (fun q hq => (ho.lt q hq).1))
                    have HO2 := hidden (show w2.ownsRow w.heap.size 5 1 v' (acc ++ [z]).length (Lib.byteCells (acc ++ [z])) by simpa using hown')
                    clear hB2 hgrow ho hown' HBY hfr
                    go_wp2_with fail
                    go_roundw
                    case rel => exact ⟨acc ++ [z], R1, rfl, HL2, by simp; omega, HO2.out, HB3.out⟩
                    case measure => simp [strLen]; omega
                  · have l3 : decide ((3 : Int) < (R.size : Int)) = false := by simp; omega
                    have HL2 := hidden (loo_next hL.out HC.out h1 (looStep_2 HC.out h92 hdat (.inr (by omega))))
                    have hx1 := ext_size (R := R) (n := 2) (by omega)
                    obtain ⟨R1, hR1⟩ : ∃ R1, R.extract 2 R.size = R1 := ⟨_, rfl⟩
                    rw [hR1] at HL2 hx1
                    have HBY : Hid (Lib.byteCells acc ++ [.int .u8 (d.toNat : Int)] = Lib.byteCells (acc ++ [d])) := by rw [Hid, Lib.byteCells_append, bytes_one]
                    have hfr := Row.fresh wr 5 1 1 [.int .u8 (d.toNat : Int)] rfl
                    have n0 : (2 : Int) ≤ (R.size : Int) := by omega
                    clear h1 h92 h120 hdat
                    go_wp2_with (at_builtin; refine wpList_app _ rfl _ _ 254 rfl w.heap.size 5 i0 _ 1 1 Tryz.underlying254 hi hz0 hz1 hz2 rfl (by decide) _ _ _ rfl (ho.alloc _) _ _ _ _ _ rfl hfr (by simp [Value.oneCell']) (by unfold maxLen; omega) (by omega) (by simp; omega) ?_; intro v' w2 hown' hgrow _)
                    rw [HBY.out] at hown'
                    have hB2 : Below w.heap.size w (wr.alloc (.cells #[.int .u8 (d.toNat : Int)] 5)) := HBL.out.alloc (by omega) _
                    have HB3 := hidden (hB2.grown hgrow (by simp; omega) (fun q hq => (ho.lt q hq).1))
                    have HO2 := hidden (show w2.ownsRow w.heap.size 5 1 v' (acc ++ [d]).length (Lib.byteCells (acc ++ [d])) by simpa using hown')
                    clear hB2 hgrow ho hown' HBY hfr
                    go_wp2_with fail
                    go_roundw
                    case rel => exact ⟨acc ++ [d], R1, rfl, HL2, by simp; omega, HO2.out, HB3.out⟩
                    case measure => simp [strLen]; omega
                · have e120 : ((d.toNat : Int) == 120) = false := by simp; omega
                  have HL2 := hidden (loo_next hL.out HC.out h1 (looStep_2 HC.out h92 hdat (.inl h120)))
                  have hx1 := ext_size (R := R) (n := 2) (by omega)
                  obtain ⟨R1, hR1⟩ : ∃ R1, R.extract 2 R.size = R1 := ⟨_, rfl⟩
                  rw [hR1] at HL2 hx1
                  have HBY : Hid (Lib.byteCells acc ++ [.int .u8 (d.toNat : Int)] = Lib.byteCells (acc ++ [d])) := by rw [Hid, Lib.byteCells_append, bytes_one]
                  have hfr := Row.fresh wr 5 1 1 [.int .u8 (d.toNat : Int)] rfl
                  have n0 : (2 : Int) ≤ (R.size : Int) := by omega
                  clear h1 h92 h120 hdat
                  go_wp2_with (at_builtin; refine wpList_app _ rfl _ _ 254 rfl w.heap.size 5 i0 _ 1 1 Tryz.underlying254 hi hz0 hz1 hz2 rfl (by decide) _ _ _ rfl (ho.alloc _) _ _ _ _ _ rfl hfr (by simp [Value.oneCell']) (by unfold maxLen; omega) (by omega) (by simp; omega) ?_; intro v' w2 hown' hgrow _)
                  rw [HBY.out] at hown'
                  have hB2 : Below w.heap.size w (wr.alloc (.cells #[.int .u8 (d.toNat : Int)] 5)) := HBL.out.alloc (by omega) _
                  have HB3 := hidden (hB2.grown hgrow (by simp; omega) (fun q hq => (ho.lt q hq).1))
                  have HO2 := hidden (show w2.ownsRow w.heap.size 5 1 v' (acc ++ [d]).length (Lib.byteCells (acc ++ [d])) by simpa using hown')
                  clear hB2 hgrow ho hown' HBY hfr
                  go_wp2_with fail
                  go_roundw
                  case rel => exact ⟨acc ++ [d], R1, rfl, HL2, by simp; omega, HO2.out, HB3.out⟩
                  case measure => simp [strLen]; omega
              · have l1 : decide ((1 : Int) < (R.size : Int)) = false := by simp; omega
                have HL2 := hidden (loo_next hL.out HC.out h1 (looStep_1 HC.out (.inr (by omega))))
                have hx1 := ext_size (R := R) (n := 1) (by omega)
                obtain ⟨R1, hR1⟩ : ∃ R1, R.extract 1 R.size = R1 := ⟨_, rfl⟩
                rw [hR1] at HL2 hx1
                have HBY : Hid (Lib.byteCells acc ++ [.int .u8 (c.toNat : Int)] = Lib.byteCells (acc ++ [c])) := by rw [Hid, Lib.byteCells_append, bytes_one]
                have hfr := Row.fresh wr 5 1 1 [.int .u8 (c.toNat : Int)] rfl
                have n0 : (1 : Int) ≤ (R.size : Int) := by omega
                clear h1 h92
                go_wp2_with (at_builtin; refine wpList_app _ rfl _ _ 254 rfl w.heap.size 5 i0 _ 1 1 Tryz.underlying254 hi hz0 hz1 hz2 rfl (by decide) _ _ _ rfl (ho.alloc _) _ _ _ _ _ rfl hfr (by simp [Value.oneCell']) (by unfold maxLen; omega) (by omega) (by simp; omega) ?_; intro v' w2 hown' hgrow _)
                rw [HBY.out] at hown'
                have hB2 : Below w.heap.size w (wr.alloc (.cells #[.int .u8 (c.toNat : Int)] 5)) := HBL.out.alloc (by omega) _
                have HB3 := hidden (hB2.grown hgrow (by simp; omega) (fun q hq => (ho.lt q hq).1))
                have HO2 := hidden (show w2.ownsRow w.heap.size 5 1 v' (acc ++ [c]).length (Lib.byteCells (acc ++ [c])) by simpa using hown')
                clear hB2 hgrow ho hown' HBY hfr
                go_wp2_with fail
                go_roundw
                case rel => exact ⟨acc ++ [c], R1, rfl, HL2, by simp; omega, HO2.out, HB3.out⟩
                case measure => simp [strLen]; omega
            · have e92 : ((c.toNat : Int) == 92) = false := by simp; omega
              have HL2 := hidden (loo_next hL.out HC.out h1 (looStep_1 HC.out (.inl h92)))
              have hx1 := ext_size (R := R) (n := 1) (by omega)
              obtain ⟨R1, hR1⟩ : ∃ R1, R.extract 1 R.size = R1 := ⟨_, rfl⟩
              rw [hR1] at HL2 hx1
              have HBY : Hid (Lib.byteCells acc ++ [.int .u8 (c.toNat : Int)] = Lib.byteCells (acc ++ [c])) := by rw [Hid, Lib.byteCells_append, bytes_one]
              have hfr := Row.fresh wr 5 1 1 [.int .u8 (c.toNat : Int)] rfl
              have n0 : (1 : Int) ≤ (R.size : Int) := by omega
              clear h1 h92
              go_wp2_with (at_builtin; refine wpList_app _ rfl _ _ 254 rfl w.heap.size 5 i0 _ 1 1 Tryz.underlying254 hi hz0 hz1 hz2 rfl (by decide) _ _ _ rfl (ho.alloc _) _ _ _ _ _ rfl hfr (by simp [Value.oneCell']) (by unfold maxLen; omega) (by omega) (by simp; omega) ?_; intro v' w2 hown' hgrow _)
              rw [HBY.out] at hown'
              have hB2 : Below w.heap.size w (wr.alloc (.cells #[.int .u8 (c.toNat : Int)] 5)) := HBL.out.alloc (by omega) _
              have HB3 := hidden (hB2.grown hgrow (by simp; omega) (fun q hq => (ho.lt q hq).1))
              have HO2 := hidden (show w2.ownsRow w.heap.size 5 1 v' (acc ++ [c]).length (Lib.byteCells (acc ++ [c])) by simpa using hown')
              clear hB2 hgrow ho hown' HBY hfr
              go_wp2_with fail
              go_roundw
              case rel => exact ⟨acc ++ [c], R1, rfl, HL2, by simp; omega, HO2.out, HB3.out⟩
              case measure => simp [strLen]; omega
    · have HU := hidden (unqP_no (s := s) (k := k) (if_neg h34))
      by_cases hlt : k < s.size
      · obtain ⟨b, hbe, hbat⟩ := str_at hlt
        have k1 : ¬ (s.size : Int) ≤ (k : Int) := by omega
        have n34 : ((b.toNat : Int) != 34) = true := by
          have : b.toNat ≠ 34 := fun e => h34 (by rw [hbat, u8_eq (b := 34) e])
          simp; omega
        clear h34 hbat hneg
        go_enter Tryz.func50, Tryz.ntmps50
        go_wp2_with fail
        go_ret3
        rw [HU.out]
        exact ⟨rfl, Below.refl _ _⟩
      · have k1 : (s.size : Int) ≤ (k : Int) := by omega
        clear h34 hneg
        go_enter Tryz.func50, Tryz.ntmps50
        go_wp2_with fail
        go_ret3
        rw [HU.out]
        exact ⟨rfl, Below.refl _ _⟩
end Go.Proofs.YtbijjjhfekkfaaaGreat
