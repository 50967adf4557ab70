/- MatchReads, walked: every text is read as the document's list or refused; a list is written as the text that it was read from. Condition: the text is of bulk at most 1048576. -/
import Derived.Test.YtbijjjhfekkfaaaGreatLRead8
import Derived.Test.YtbijjjhfekkfaaaGreatRShow8
import Derived.Test.YtbijjjhfekkfaaaGreatMShowA
import Derived.Test.YtbijjjhfekkfaaaGreatPkce6c004c
import Derived.Test.YtbijjjhfekkfaaaGreatPkc2774c96
namespace Go.Proofs.YtbijjjhfekkfaaaGreat
set_option maxRecDepth 1000000
open Go.RowKit Go.WideShapes Go.ChangeShapes

theorem joinT_L : ∀ xs : List ByteArray, joinT xs = joinL xs
  | [] => rfl
  | _ :: _ => rfl
/-- what is read is fit; an error is none that is zero -/
theorem parM_fit {s : ByteArray} : ∀ (f a : Nat) (out : List Ask), a ≤ s.size → (∀ x ∈ out, (0 ≤ x.kind ∧ x.kind < 4) ∧ x.name.size ≤ s.size ∧ x.value.size ≤ s.size) → (∀ res, parM s f a out = .ok res → ∀ x ∈ res, (0 ≤ x.kind ∧ x.kind < 4) ∧ x.name.size ≤ s.size ∧ x.value.size ≤ s.size) ∧ ∀ c, parM s f a out = .error c → c ≠ 0
  | 0, a, out, _, _ => by simp [parM]
  | f + 1, a, out, ha, ho => by
    have sl : s.data.toList.length = s.size := rfl
    have hle := sgn_le s.data.toList (a := a) (by omega)
    obtain ⟨k, hk⟩ : ∃ k, a + sgn s.data.toList a = k := ⟨_, rfl⟩
    by_cases hlt : k < s.size
    · cases hq : kindAt s.data.toList k with
      | none => rw [parM_kind hk hq]; exact ⟨fun _ h => (by cases h), fun c h => (by cases h; decide)⟩
      | some p =>
        obtain ⟨q, d⟩ := p
        obtain ⟨hq4, _, _⟩ := kindAt_lt hq
        cases hu : unqO s (k + d) with
        | none => rw [parM_unq hk hq hu]; exact ⟨fun _ h => (by cases h), fun c h => (by cases h; decide)⟩
        | some p =>
          obtain ⟨v, n⟩ := p
          obtain ⟨hv, hn, _⟩ := unqO_in hu
          by_cases he : newE (q : Int) (s.extract a k) ⟨v.toArray⟩ = 0
          · have ho2 : ∀ x ∈ out ++ [⟨(q : Int), s.extract a k, ⟨v.toArray⟩⟩], (0 ≤ x.kind ∧ x.kind < 4) ∧ x.name.size ≤ s.size ∧ x.value.size ≤ s.size := fun x hx => by
              rcases List.mem_append.1 hx with hx | hx
              · exact ho x hx
              · rw [List.mem_singleton.1 hx]
                exact ⟨⟨by show (0 : Int) ≤ (q : Int); omega, by show (q : Int) < 4; omega⟩, ext_le s a k, hv⟩
            by_cases hend : n = s.size
            · rw [parM_last hk hq hu hlt he hend]
              exact ⟨fun res h => (by cases h; exact ho2), fun c h => (by cases h)⟩
            · by_cases h44 : s.data.toList[n]? = some 44
              · by_cases hn1 : n + 1 = s.size
                · rw [parM_tail hk hq hu hlt he hend h44 hn1]; exact ⟨fun _ h => (by cases h), fun c h => (by cases h; decide)⟩
                · rw [parM_more hk hq hu hlt he hend h44 hn1]
                  exact parM_fit f (n + 1) _ (by omega) ho2
              · rw [parM_stop hk hq hu hlt he hend h44]; exact ⟨fun _ h => (by cases h), fun c h => (by cases h; decide)⟩
          · rw [parM_new hk hq hu hlt he]; exact ⟨fun _ h => (by cases h), fun c h => (by cases h; exact he)⟩
    · rw [parM_end (by omega)]; exact ⟨fun _ h => (by cases h), fun c h => (by cases h; decide)⟩
theorem readM_fit (s : ByteArray) : (∀ x ∈ okM (readM s), (0 ≤ x.kind ∧ x.kind < 4) ∧ x.name.size ≤ s.size ∧ x.value.size ≤ s.size) ∧ ((errM (readM s) = 0 ∧ joinT ((okM (readM s)).map showA) = s.data.toList) ∨ (errM (readM s) ≠ 0 ∧ okM (readM s) = [])) := by
  have h := parM_fit (s := s) (s.size + 1) 0 [] (Nat.zero_le _) (by simp)
  cases hr : readM s with
  | ok res =>
    refine ⟨?_, .inl ⟨rfl, readM_shows hr⟩⟩
    unfold readM at hr
    split at hr
    · cases hr; simp [okM]
    · exact h.1 res hr
  | error c =>
    refine ⟨by simp [okM], .inr ⟨?_, rfl⟩⟩
    unfold readM at hr
    split at hr
    · cases hr
    · exact h.2 c hr
theorem len_joinL : ∀ xs : List ByteArray, xs.length ≤ (joinL xs).length + 1
  | [] => Nat.zero_le _
  | x :: r => by
    have h : r.length ≤ (r.flatMap fun y => 44 :: y.data.toList).length := by
      induction r with
      | nil => exact Nat.le_refl _
      | cons y r ih =>
        simp only [List.flatMap_cons, List.length_append, List.length_cons] at *
        omega
    simp only [joinL, List.length_append, List.length_cons]
    omega
set_option maxHeartbeats 3200000 in
theorem matReads_any (s : ByteArray) (w : World) (hs : s.size ≤ 1048576) :
    Calls Tryz.prog 3 #[.string s] w fun e w' => e = .returned (.bool true) ∧ Below w.heap.size w w' := by
  have S1 := hidden (lread8_any s w (by omega))
  have S2 := hidden (fun W => rread8_any s W (by omega))
  have S3 := hidden (fun W => wakes08_any W)
  obtain ⟨hfit, hend⟩ := readM_fit s
  obtain ⟨E, hE⟩ : ∃ E, errM (readM s) = E := ⟨_, rfl⟩
  obtain ⟨L, hL⟩ : ∃ L, okM (readM s) = L := ⟨_, rfl⟩
  simp only [hE, hL] at S1 S2 hfit hend
  have HFIT := hidden hfit
  have HEND := hidden hend
  clear hfit hend hE hL
  go_enter Tryz.func3, Tryz.ntmps3
  go_wp2_with fail
  refine S1.out.mono ?_
  rintro e w1 ⟨v1, ms, rfl, hO, hask, b1⟩
  obtain ⟨A1, c1, e1, hc1, hM1⟩ := hO.row
  subst e1
  have HM1 := hidden hM1
  have HASK := hidden hask
  have HB1 := hidden b1
  clear hO hM1 hask b1 S1
  go_wp2_with fail
  refine (S2.out _).mono ?_
  rintro e w2 ⟨v2, rfl, ho2, b2⟩
  obtain ⟨A2, c2, e2, hc2, hr2⟩ := own_shape ho2
  subst e2
  have HB2 := hidden (HB1.out.trans (b2.mono HB1.out.size))
  have HM2 := hidden (HM1.out.on b2)
  have HR2 := hidden hr2
  clear ho2 hr2 b2 S2 HM1 HB1
  go_wp2_with fail
  refine (S3.out _).mono ?_
  rintro e w3 ⟨rfl, b3⟩
  have HB3 := hidden (HB2.out.trans (b3.mono HB2.out.size))
  have HM3 := hidden (HM2.out.on b3)
  have HR3 := hidden ((HR2.out.below b3).more b3.size)
  have hml : ms.length = L.length := by have := congrArg List.length HASK.out; rwa [List.length_map] at this
  have HML := hidden hml
  rw [hml]
  clear b3 S3 HM2 HR2 HB2 hml
  go_wp2_with fail
  have heq := fun a => eql_mp8 a
  have hfew : L.length ≤ 1048577 := by
    rcases HEND.out with ⟨_, h⟩ | ⟨_, h⟩
    · have h1 := len_joinL (L.map showA)
      rw [List.length_map, ← joinT_L, h] at h1
      have h2 : s.data.toList.length = s.size := rfl
      omega
    · rw [h]; exact Nat.zero_le _
  go_loopw [35] (fun vi wr => ∃ k : Nat, vi = .int .i64 k ∧ k ≤ L.length ∧ Hid (Below w3.heap.size w3 wr)) (fun vi _ => L.length - (intOf vi).toNat)
  case atStart => exact ⟨0, rfl, Nat.zero_le _, hidden (Below.refl _ _)⟩
  case round =>
    obtain ⟨k, rfl, hk, hb⟩ := hrel
    have k0 : (0 : Int) ≤ (k : Int) := by omega
    by_cases hlt : k < L.length
    · have k1 : (k : Int) < (L.length : Int) := by omega
      have fwk : IntKind.i64.wrap ((k : Int) + 1) = (k : Int) + 1 := Go.IntWalk.i64_in _ (by omega)
      obtain ⟨g, o, x, rfl, hg, hx, ck, hM⟩ := mt_cell (HM3.out.on hb.out) (show k < ms.length by have := HML.out; omega)
      obtain ⟨g2, o2, y, rfl, hg2, hy, hcy⟩ := row_at (enc := Ask.cells) (k := 3) (fun _ => rfl) ((HR3.out.below hb.out).more hb.out.size) rfl k hlt
      have hxy : Mt.ask x = y := by
        have h1 := congrArg (fun l => l[k]?) HASK.out
        simp only [List.getElem?_map, hx, hy, Option.map_some] at h1
        exact Option.some.inj h1
      obtain ⟨⟨f0, f1⟩, f2, f3⟩ := HFIT.out y (List.mem_of_getElem? hy)
      have hkd : x.kind = y.kind := congrArg Ask.kind hxy
      have hnm : x.name = y.name := congrArg Ask.name hxy
      have hvl : x.value = y.value := congrArg Ask.value hxy
      rw [hkd, hnm, hvl, show y.kind = ((y.kind.toNat : Nat) : Int) by omega] at hM
      have S4 := hidden (fun (W : World) (hW : Below wr.heap.size wr W) => mshow_any x.M y.kind.toNat y.name y.value x.F W (hM.on hW) (by omega) (by omega) (by omega))
      have d0 := hcy 0 (by omega)
      have d1 := hcy 1 (by omega)
      have d2 := hcy 2 (by omega)
      have HD := hidden (And.intro d0 (And.intro d1 d2))
      have HG2 := hidden hg2
      have S5 := hidden (fun (c' : Nat) (W : World) (hW : Below wr.heap.size wr W) => rshow8_any g2 (o2 + k * 3) c' y W ⟨f0, f1⟩ (by omega) (by omega) ((hW.cell (p := ⟨g2, o2 + k * 3, none⟩) hg2).trans d0) ((hW.cell (p := ⟨g2, o2 + k * 3 + 1, none⟩) hg2).trans d1) ((hW.cell (p := ⟨g2, o2 + k * 3 + 2, none⟩) hg2).trans d2) (Nat.lt_of_lt_of_le hg2 hW.size))
      clear hx hy hcy hxy hkd hnm hvl hM f0 f1 f2 f3 d0 d1 d2
      have kc : k + 1 ≤ c2 := by omega
      have kc1 : (k : Int) + 1 ≤ (c2 : Int) := by omega
      have kc2 : (k : Int) ≤ (k : Int) + 1 := by omega
      have kc3 : ((k : Int) + 1).toNat = k + 1 := by omega
      obtain ⟨T, hT⟩ : ∃ T, showM y.kind.toNat y.name y.value = T := ⟨_, rfl⟩
      have hT2 : showA y = T := hT
      rw [hT] at S4
      rw [hT2] at S5
      clear hT hT2
      go_wp2_with fail
      go_region_held3 (fun W => Below wr.heap.size wr W)
        (first | exact Below.refl _ _ | exact (Below.refl _ _).drew | assumption)
        (first
          | (go_at_call 13; refine (S4.out _ (by first | exact (Below.refl _ _).drew | assumption)).mono ?_; rintro e w4 ⟨rfl, b4⟩; have k4 : Below wr.heap.size wr w4 := (Below.refl _ _).drew.trans b4)
          | (go_at_call 14; refine (S5.out _ _ (by assumption)).mono ?_; rintro e w5 ⟨rfl, b5⟩; have k5 : Below wr.heap.size wr w5 := k4.trans (b5.mono k4.size)))
      have HK5 := hidden (hb.out.trans (k5.mono hb.out.size))
      clear k4 k5 b4 b5
      go_wp2_with fail
      go_roundw
      case rel => exact ⟨k + 1, by go_num, by omega, HK5⟩
      case measure => simp [intOf]; omega
    · obtain rfl : L.length = k := by omega
      have HBB := hidden (HB3.out.trans (hb.out.mono HB3.out.size))
      rcases HEND.out with ⟨hE0, hj⟩ | ⟨hE0, hl0⟩
      · subst hE0
        have hml2 : ms.length = L.length := HML.out
        have htx : ms.map Mt.txt = L.map showA := by
          rw [← HASK.out, List.map_map]
          rfl
        have hjs : (⟨(joinL (ms.map Mt.txt)).toArray⟩ : ByteArray) = s := bytes_eq (by rw [htx, ← joinT_L]; exact hj)
        have hkk : ∀ x ∈ ms, 0 ≤ x.kind ∧ x.kind < 4 ∧ x.name.size ≤ 16777216 ∧ x.value.size ≤ 16777216 := fun x hx => by
          have h1 := HFIT.out (Mt.ask x) (by rw [← HASK.out]; exact List.mem_map_of_mem hx)
          obtain ⟨⟨k1, k2⟩, k3, k4⟩ := h1
          have k3 : x.name.size ≤ s.size := k3
          have k4 : x.value.size ≤ s.size := k4
          exact ⟨k1, k2, by omega, by omega⟩
        have S6 := hidden (mshows_any A1 L.length c1 ms wr (by rw [← hml2]; exact HM3.out.on hb.out) (by omega) (by omega) hkk (by rw [htx, ← joinT_L, hj]; have h2 : s.data.toList.length = s.size := rfl; omega))
        rw [hjs] at S6
        clear hml2 htx hjs hkk hj
        go_wp2_with fail
        refine S6.out.mono ?_
        rintro e w4 ⟨rfl, b4⟩
        have HB4 := hidden (HBB.out.trans (b4.mono HBB.out.size))
        clear b4 S6
        go_wp2_with fail
        go_ret
        exact ⟨rfl, HB4.out⟩
      · have eE : ((E : Int) != 0) = true := by simp; omega
        go_wp2_with fail
        go_ret
        exact ⟨rfl, HBB.out⟩
theorem matchReads_walk {H : Type} (enc : TypeId × Value → H) : LawWalk enc Tryz.prog 3 Tryz.f3 (fun ds => Rows.uptoBulkAll ds ≤ 1048576) := by
  intro W base args ds p hval hA hlt hsz hcond
  rw [Tryz.params3] at hval hA hsz
  obtain ⟨v0, vs0, d0, ds0, p0, q0, hargs, rfl, rfl, h0, r0⟩ := trodAll_cons hA
  obtain ⟨rfl, rfl, rfl⟩ := trodAll_nil r0
  obtain rfl : args = #[v0] := by cases args; simp_all
  obtain ⟨s, rfl, hs⟩ := open_text_n Tryz.underlying9 (hval 0 9 v0 rfl rfl) h0 (arg_fits (j := 0) rfl rfl (fun x hx => hlt x (by simp [hx])) hsz hcond)
  exact matReads_any ⟨s.toArray⟩ W (by show s.toArray.size ≤ _; rw [List.size_toArray]; exact hs)

namespace matchReadsUpto
set_option maxRecDepth 100000 in
theorem lifted (os : Os) (started : os.Started) (H : Type) (enc : TypeId × Value → H) (F : Stop.Interp) :
    ReturnsInHanded {} Tryz.checked os 3 .any ((Rows.OpenSpec.upto Rows.matchReadsSpec).pre6 enc Tryz.prog Tryz.f3 Rows.matchReadsUptoRow.domain false) (((Rows.OpenSpec.upto Rows.matchReadsSpec).at F).post enc Tryz.prog Tryz.f3 false true false false) :=
  law_upto (C := Tryz.checked) (s := Rows.matchReadsSpec) (tb := 4) own_prog started (by kernel_rfl) Tryz.func3
    (OpenSpec.witness (enc := enc) (C := Tryz.checked) (s := Rows.OpenSpec.upto Rows.matchReadsSpec) (k := Rows.uptoSmall) rfl false ⟨#[], #[.string ⟨#[]⟩], []⟩ 8 (by kernel_rfl) (by kernel_rfl) (by kernel_rfl)
      (x := ([.lit (.string [])], [], [])) (by kernel_rfl) rfl (by kernel_rfl))
    laidOut (by kernel_rfl) rfl Tryz.underlying4 ⟨rfl, fun H ds h => match ds, h with | [_], _ => ⟨rfl, rfl, rfl⟩⟩ (matchReads_walk enc)

end matchReadsUpto
end Go.Proofs.YtbijjjhfekkfaaaGreat
