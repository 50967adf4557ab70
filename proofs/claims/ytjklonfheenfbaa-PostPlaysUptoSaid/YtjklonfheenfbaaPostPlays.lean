/- PostPlays: whatever cursors are made of one another, each Next and each Seek is the document's answer. Condition: what comes in is of bulk at most 1048576. -/
import Derived.Test.YtjklonfheenfbaaPostTop
namespace Go.Proofs.Ytjklonfheenfbaa
set_option maxRecDepth 100000
open Go.RowKit Go.WideShapes Go.ChangeShapes Go.Shelf

/-- a call of a cursor: with Seek, or the next one -/
structure Ak where
  seek : Bool
  n : Int
def Ak.cells (x : Ak) : List Value := [.bool x.seek, .int .i64 x.n]
instance : Inhabited Ak := ⟨⟨false, 0⟩⟩
structure AkF (w : World) (A : Option Addr) (m : Nat) (l : List Ak) : Prop where
  row : Row w w.heap.size 2 A m (l.flatMap Ak.cells)
  len : l.length = m
  few : m ≤ 1048576
  ints : ∀ x ∈ l, inI x.n
theorem AkF.on {w w' : World} {A : Option Addr} {m : Nat} {l : List Ak} (h : AkF w A m l) (hb : Below w.heap.size w w') : AkF w' A m l := ⟨(h.row.below hb).more hb.size, h.len, h.few, h.ints⟩
theorem flat2 : ∀ {l : List Ak} {k : Nat} {x : Ak}, l[k]? = some x → ∀ i, i < 2 → (l.flatMap Ak.cells)[k * 2 + i]? = x.cells[i]?
  | y :: l, 0, x, h, i, hi => by
    simp only [List.getElem?_cons_zero, Option.some.injEq] at h
    subst h
    rw [Nat.zero_mul, Nat.zero_add, List.flatMap_cons, List.getElem?_append_left (by simpa [Ak.cells] using hi)]
  | y :: l, k + 1, x, h, i, hi => by
    rw [List.getElem?_cons_succ] at h
    have := flat2 h i hi
    rw [List.flatMap_cons, List.getElem?_append_right (by simp [Ak.cells]; omega), show (k + 1) * 2 + i - (Ak.cells y).length = k * 2 + i by simp [Ak.cells]; omega]
    exact this
theorem ak_cells {w : World} {A : Option Addr} {m : Nat} {l : List Ak} (h : AkF w A m l) {k : Nat} (hk : k < m) : ∃ g o x, A = some ⟨g, o, none⟩ ∧ g < w.heap.size ∧ l[k]? = some x ∧ w.cell? ⟨g, o + k * 2, none⟩ = some (.bool x.seek) ∧ w.cell? ⟨g, o + k * 2 + 1, none⟩ = some (.int .i64 x.n) ∧ inI x.n := by
  obtain ⟨g, o, rfl, hg, hc⟩ := h.row.at_ (by omega)
  have hs : l[k]? = some (l[k]'(by have := h.len; omega)) := List.getElem?_eq_getElem _
  have e := flat2 hs
  refine ⟨g, o, _, rfl, hg, hs, ?_, ?_, h.ints _ (List.mem_of_getElem? hs)⟩
  · rw [show o + k * 2 = o + (k * 2 + 0) by omega, hc _ (by omega), e 0 (by omega)]; rfl
  · rw [show o + k * 2 + 1 = o + (k * 2 + 1) by omega, hc _ (by omega), e 1 (by omega)]; rfl
/-- where a call begins -/
def Ak.at (x : Ak) : Int := if x.seek = true then x.n else -9223372036854775808

set_option maxHeartbeats 6400000 in
theorem postPlays_any (A : Option Addr) (m c : Nat) (l : List Nd) (B : Option Addr) (n d : Nat) (ak : List Ak) (w : World) (h : NdF w A m l) (h2 : AkF w B n ak) :
    Calls Try.prog 10 #[.slice A m c, .slice B n d] w fun e w' => e = .returned (.bool true) ∧ Below w.heap.size w w' := by
  have H2 := hidden h2
  have hfn := h2.few
  obtain ⟨E0, hE0⟩ : ∃ E0, topOf l = E0 := ⟨_, rfl⟩
  have HLE : Hid (E0.length ≤ 1048576) := by rw [← hE0]; exact Nat.le_trans (topOf_le l) h.few.2
  have HE0 := hidden hE0
  have S1 := hidden (built_any A m c l w h)
  clear h h2 hE0
  go_enter Try.func10, Try.ntmps10
  go_wp2_with fail
  refine S1.out.mono ?_
  rintro e w1 ⟨p, E, F, L, c1, rfl, hE, hC, hc1, hI, hof⟩
  obtain rfl : E = E0 := hE.trans HE0.out
  obtain ⟨pa, rfl⟩ := hC.ptr
  have HC := hidden hC
  have HI := hidden hI
  have HOF := hidden hof
  clear hE hC hI hof S1
  go_wp2_with fail
  refine (postWakes_any _).mono ?_
  rintro e w2 ⟨rfl, b2⟩
  have HC2 := hidden (HC.out.on b2)
  have HI2 := hidden (HI.out.on b2)
  clear b2 HC HI
  go_wp2_with fail
  go_loopw [6, 24] (fun vl vi wr => ∃ (k : Nat) (E : List Int) (L : Option Addr) (c : Nat), k ≤ n ∧ vi = .int .i64 k ∧ vl = .slice L E.length c ∧ E.length ≤ c ∧ E.length ≤ 1048576 ∧ FC w wr (.pointer pa) E F ∧ Hid (IntF wr L E.length E) ∧ Hid (∀ k, F k → ¬ (0 < E.length ∧ blockOf L k))) (fun _ vi _ => n - (intOf vi).toNat)
  case atStart => exact ⟨0, E, L, c1, Nat.zero_le _, rfl, rfl, hc1, HLE.out, HC2.out, HI2, HOF⟩
  case round =>
    clear HC2 HI2 HOF HLE HE0 hc1
    obtain ⟨k, E, L, c, hk, rfl, rfl, hEc, hEl, hC, hI, hof⟩ := hrel
    have HC := hidden hC
    clear hC
    by_cases hlt : k < n
    · obtain ⟨g, o, ⟨sk, an⟩, rfl, hg, hx, d0, d1, hin⟩ := ak_cells (H2.out.on HC.out.2.2) hlt
      simp only at d0 d1 hin
      have k0 : (0 : Int) ≤ (k : Int) := by omega
      have k1 : (k : Int) < (n : Int) := by omega
      clear hx
      cases sk
      · have HB3 := hidden ((Below.refl wr.heap.size wr).alloc (Nat.le_refl _) (Obj.cells #[Value.bool false, Value.int .i64 an] 73))
        have HC3 := hidden (HC.out.on HB3.out)
        have HI3 := hidden (hI.out.on HB3.out)
        have hGe : geL (-9223372036854775808) E = E := geL_all fun x hx => (HC3.out.ints x hx).1
        have S2 : Hid (Calls Try.prog 41 #[.pointer pa] (wr.alloc (Obj.cells #[Value.bool false, Value.int .i64 an] 73)) fun e w' => e = ansL (geL (-9223372036854775808) E) ∧ IsCur w' (.pointer pa) (geL (-9223372036854775808) E).tail F ∧ Kp F (wr.alloc (Obj.cells #[Value.bool false, Value.int .i64 an] 73)) w') := by rw [hGe]; exact next_cur (.pointer pa) E F _ HC3.out.1
        clear hGe
        have HGL : Hid ((geL (-9223372036854775808) E).length ≤ E.length) := List.length_filter_le _ _
        have S3 := hidden (fun W hW => rSeek13_any L E.length c E (-9223372036854775808) W hW HC3.out.rising hEc)
        obtain ⟨GG, hGG⟩ : ∃ GG, geL (-9223372036854775808) E = GG := ⟨_, rfl⟩
        rw [hGG] at S2 S3 HGL
        clear hGG
        cases GG with
        | nil =>
          go_wp2_with fail
          refine S2.out.mono ?_
          rintro e w5 ⟨he, hc5, hk5⟩
          obtain rfl : e = .returned (.tuple #[.int .i64 0, .bool false]) := he
          have HC5 := hidden (HC3.out.kp hc5 hk5)
          have S4 := hidden (S3.out w5 (HI3.out.kp hk5 hof.out))
          clear hc5 hk5 S2 S3
          go_wp2_with fail
          refine S4.out.mono ?_
          rintro e w6 ⟨he, hb6⟩
          obtain rfl : e = .returned (.tuple #[.int .i64 0, .bool false, .slice none 0 0]) := he
          have HC6 := hidden (HC5.out.on hb6)
          clear hb6 S4
          go_wp2_with fail
          go_roundw
          case rel => exact ⟨k + 1, [], none, 0, by omega, by go_num, rfl, Nat.le_refl _, by decide, HC6.out, ⟨Row.nil, rfl, by decide, by simp⟩, fun _ _ h => absurd h.1 (by decide)⟩
          case measure => simp [intOf]; omega
        | cons y r =>
          have hbb : (y != y) = false := by simp
          go_wp2_with fail
          refine S2.out.mono ?_
          rintro e w5 ⟨he, hc5, hk5⟩
          obtain rfl : e = .returned (.tuple #[.int .i64 y, .bool true]) := he
          have HC5 := hidden (HC3.out.kp hc5 hk5)
          have S4 := hidden (S3.out w5 (HI3.out.kp hk5 hof.out))
          clear hc5 hk5 S2 S3
          go_wp2_with fail
          refine S4.out.mono ?_
          rintro e w6 ⟨he, hb6⟩
          obtain ⟨A6, c6, rfl, hrc, hI6, hof6⟩ := he
          have HC6 := hidden (HC5.out.on hb6)
          have HI6 := hidden hI6
          have HOF6 : Hid (∀ q, F q → ¬ (0 < r.length ∧ blockOf A6 q)) := fun q hq ⟨hn, hb⟩ => hof.out q hq ⟨by have := HGL.out; simp at this; omega, hof6 q hb⟩
          have hrl : r.length ≤ 1048576 := by have := HGL.out; simp at this; omega
          clear hb6 hI6 hof6 S4
          go_wp2_with fail
          go_roundw
          case rel => exact ⟨k + 1, r, A6, c6, by omega, by go_num, rfl, hrc, hrl, HC6.out, HI6, HOF6⟩
          case measure => simp [intOf]; omega
      · have HB3 := hidden ((Below.refl wr.heap.size wr).alloc (Nat.le_refl _) (Obj.cells #[Value.bool true, Value.int .i64 an] 73))
        have HC3 := hidden (HC.out.on HB3.out)
        have HI3 := hidden (hI.out.on HB3.out)
        have S2 := hidden (seek_cur (.pointer pa) E F an _ HC3.out.1 hin)
        have hat := hin
        have HGL : Hid ((geL an E).length ≤ E.length) := List.length_filter_le _ _
        have S3 := hidden (fun W hW => rSeek13_any L E.length c E an W hW HC3.out.rising hEc)
        obtain ⟨GG, hGG⟩ : ∃ GG, geL an E = GG := ⟨_, rfl⟩
        rw [hGG] at S2 S3 HGL
        clear hGG
        cases GG with
        | nil =>
          go_wp2_with fail
          refine S2.out.mono ?_
          rintro e w5 ⟨he, hc5, hk5⟩
          obtain rfl : e = .returned (.tuple #[.int .i64 0, .bool false]) := he
          have HC5 := hidden (HC3.out.kp hc5 hk5)
          have S4 := hidden (S3.out w5 (HI3.out.kp hk5 hof.out))
          clear hc5 hk5 S2 S3
          go_wp2_with fail
          refine S4.out.mono ?_
          rintro e w6 ⟨he, hb6⟩
          obtain rfl : e = .returned (.tuple #[.int .i64 0, .bool false, .slice none 0 0]) := he
          have HC6 := hidden (HC5.out.on hb6)
          clear hb6 S4
          go_wp2_with fail
          go_roundw
          case rel => exact ⟨k + 1, [], none, 0, by omega, by go_num, rfl, Nat.le_refl _, by decide, HC6.out, ⟨Row.nil, rfl, by decide, by simp⟩, fun _ _ h => absurd h.1 (by decide)⟩
          case measure => simp [intOf]; omega
        | cons y r =>
          have hbb : (y != y) = false := by simp
          go_wp2_with fail
          refine S2.out.mono ?_
          rintro e w5 ⟨he, hc5, hk5⟩
          obtain rfl : e = .returned (.tuple #[.int .i64 y, .bool true]) := he
          have HC5 := hidden (HC3.out.kp hc5 hk5)
          have S4 := hidden (S3.out w5 (HI3.out.kp hk5 hof.out))
          clear hc5 hk5 S2 S3
          go_wp2_with fail
          refine S4.out.mono ?_
          rintro e w6 ⟨he, hb6⟩
          obtain ⟨A6, c6, rfl, hrc, hI6, hof6⟩ := he
          have HC6 := hidden (HC5.out.on hb6)
          have HI6 := hidden hI6
          have HOF6 : Hid (∀ q, F q → ¬ (0 < r.length ∧ blockOf A6 q)) := fun q hq ⟨hn, hb⟩ => hof.out q hq ⟨by have := HGL.out; simp at this; omega, hof6 q hb⟩
          have hrl : r.length ≤ 1048576 := by have := HGL.out; simp at this; omega
          clear hb6 hI6 hof6 S4
          go_wp2_with fail
          go_roundw
          case rel => exact ⟨k + 1, r, A6, c6, by omega, by go_num, rfl, hrc, hrl, HC6.out, HI6, HOF6⟩
          case measure => simp [intOf]; omega
    · have k1 : ¬ (k : Int) < (n : Int) := by omega
      have S2 := hidden (restK HC.out hEl)
      go_wp2_with fail
      refine S2.out.mono ?_
      rintro e w5 ⟨A5, c5, rfl, _, hI5, hn5, hC5, hk5⟩
      have HI5 := hidden hI5
      have HL5 := hidden (hI.out.kp hk5 hof.out)
      have HC5 := hidden hC5
      have S3 := hidden (sameI_yes A5 L E.length c5 c E w5 HI5.out HL5.out)
      clear hI5 hn5 hC5 hk5 S2
      go_wp2_with fail
      refine S3.out.mono ?_
      rintro e w6 ⟨rfl, b6⟩
      have HC6 := hidden (HC5.out.on b6)
      have S4 := hidden (restK HC6.out (Nat.zero_le _))
      clear b6 S3
      go_wp2_with fail
      refine S4.out.mono ?_
      rintro e w7 ⟨A7, c7, rfl, _, hI7, hn7, hC7, hk7⟩
      have HC7 := hidden hC7
      clear hI7 hn7 hC7 hk7 S4
      go_wp2_with fail
      go_ret
      exact ⟨rfl, HC7.out.2.2⟩

section
variable {H : Type} {enc : TypeId × Value → H} {W : World} {b : Nat}
set_option maxRecDepth 100000 in
theorem opens_ak : Opens enc Try.prog W b 73 Ak.cells (fun x => inI x.n) := by
  intro fuel cs x h hf
  obtain ⟨n, hl, hp⟩ := open_ones Try.underlying73 (by kernel_rfl) (by kernel_rfl) h hf
  obtain ⟨u0, y0, c0, t0, f0⟩ := hp 0 _ rfl
  obtain ⟨u1, y1, c1, t1, f1⟩ := hp 1 _ rfl
  obtain ⟨k0, e0, _⟩ := DataW.trod_bool Try.underlying4 t0
  obtain ⟨k1, e1, g1⟩ := opens_int (k := .i64) Try.underlying3 _ _ _ t1 f1
  simp only [List.cons.injEq, and_true] at e0 e1
  subst e0 e1
  match cs, hl with
  | [a, c], _ =>
    simp only [List.getElem?_cons_zero, List.getElem?_cons_succ, Option.some.injEq] at c0 c1
    have i1 : inI k1 := by have := wf_i64 g1; unfold inI; omega
    exact ⟨⟨k0, k1⟩, by rw [c0, c1]; rfl, i1⟩
theorem open_asks {base : Nat} {v : Value} {d : DataW H} {ps : List MemPlace} (hv : Value.okWide Try.prog W .any base 67 v) (h : DataW.Trod enc Try.prog W 0 (fun _ => true) true 67 v d ps) (hF : Fits Try.prog W b 67 (d, ps)) (hb : b ≤ 1048576) :
    ∃ s : Sl Ak, v = s.val ∧ AkF W s.A s.n s.l := by
  obtain ⟨s, rfl, hs, hok, hn, hb1⟩ := open_arg_slice (k := 2) (f := Ak.cells) Try.underlying67 (by kernel_rfl) (by decide) (fun _ => rfl) opens_ak hv h hF
  exact ⟨s, rfl, ⟨hs.2.2, hs.2.1, by omega, hok⟩⟩
end

theorem postPlays_walk {H : Type} (enc : TypeId × Value → H) : LawWalk enc Try.prog 10 Try.f10 (fun ds => Rows.uptoBulkAll ds ≤ 1048576) := by
  intro W base args ds p hval hA hlt hsz hcond
  rw [Try.params10] at hval hA hsz
  obtain ⟨v0, vs0, d0, ds0, p0, q0, hargs, rfl, rfl, h0, r0⟩ := trodAll_cons hA
  obtain ⟨v1, vs1, d1, ds1, p1, q1, rfl, rfl, rfl, h1, r1⟩ := trodAll_cons r0
  obtain ⟨rfl, rfl, rfl⟩ := trodAll_nil r1
  obtain rfl : args = #[v0, v1] := by cases args; simp_all
  obtain ⟨s, rfl, hs⟩ := open_nodes (hval 0 66 v0 rfl rfl) h0 (arg_fits (b := Rows.uptoBulkAll [d0, d1]) (j := 0) rfl rfl (fun x hx => hlt x (by simp [hx])) hsz (Nat.le_refl _)) hcond
  obtain ⟨r, rfl, hr⟩ := open_asks (hval 1 67 v1 rfl rfl) h1 (arg_fits (b := Rows.uptoBulkAll [d0, d1]) (j := 1) rfl rfl (fun x hx => hlt x (by simp [hx])) hsz (Nat.le_refl _)) hcond
  exact postPlays_any s.A s.n s.c s.l r.A r.n r.c r.l W hs hr

namespace postPlaysUpto
set_option maxRecDepth 100000 in
theorem lifted (os : Os) (started : os.Started) (H : Type) (enc : TypeId × Value → H) (F : Stop.Interp) :
    ReturnsInHanded {} Try.checked os 10 .any ((Rows.OpenSpec.upto Rows.postPlaysSpec).pre6 enc Try.prog Try.f10 Rows.postPlaysUptoRow.domain false) (((Rows.OpenSpec.upto Rows.postPlaysSpec).at F).post enc Try.prog Try.f10 false true false false) :=
  law_upto (C := Try.checked) (s := Rows.postPlaysSpec) (tb := 4) own_prog started (by kernel_rfl) Try.func10
    (OpenSpec.witness (enc := enc) (C := Try.checked) (s := Rows.OpenSpec.upto Rows.postPlaysSpec) (k := Rows.uptoSmall) rfl false ⟨#[], #[.slice none 0 0, .slice none 0 0], []⟩ 8 (by kernel_rfl) (by kernel_rfl) (by kernel_rfl)
      (x := ([.nil, .nil], [], [])) (by kernel_rfl) rfl (by kernel_rfl))
    laidOut (by kernel_rfl) rfl Try.underlying4 ⟨rfl, fun H ds h => match ds, h with | [_, _], _ => ⟨rfl, rfl, rfl⟩⟩ (postPlays_walk enc)

theorem proved : Rows.PostPlaysUptoSaid :=
  OpenClaim.holds_of_cond 10 Try.f10 rfl rfl rfl rfl rfl rfl rfl ⟨rfl, rfl, rfl, rfl, rfl⟩ rfl rfl rfl rfl rfl (by kernel_rfl) Try.func10 (by kernel_rfl)
    (of_decide_eq_true (by kernel_rfl)) (by unfold Func.isWrapper; first | (rw [if_pos (by decide +kernel)]; kernel_rfl) | (rw [if_neg (by decide +kernel)]; exact ⟨rfl, rfl⟩))
    (fun os started H enc _ F => lifted os started H enc F)
#print axioms proved
end postPlaysUpto

end Go.Proofs.Ytjklonfheenfbaa
