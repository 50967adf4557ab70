/- MatchOpposites: the kinds come in pairs, of which just one fits each value and each set. No condition. -/
import Derived.Test.YtalnndenncnbdaaWak08
import Derived.Test.YtalnndenncnbdaaArgs
import Derived.Test.YtalnndenncnbdaaOpenT
namespace Go.Proofs.Ytalnndenncnbdaa
set_option maxRecDepth 100000
open Go.RowKit Go.WideShapes Go.ChangeShapes

theorem infoKind : (Try.prog.info? 23).map (fun i => i.size) = some 1 := by kernel_rfl
theorem ix_kinds (k : Nat) (hk : k < 2) (w : World) : (Instr.index 24 (.agg #[.int .i64 0, .int .i64 2]) (.int .i64 (k : Int))).run Try.prog w = .ok (.int .i64 (2 * k : Nat)) w := by
  obtain ⟨f, hf, hs⟩ := Option.map_eq_some_iff.1 infoKind
  refine ix_arr Try.underlying24 Try.underlying23 rfl hf hs hk ?_ w
  have hkk : k = 0 ∨ k = 1 := by omega
  rcases hkk with rfl | rfl <;> rfl

/-- a pair's two answers, of the kinds k and k + 1 -/
theorem newF_pair (k : Int) (hk : k = 0 ∨ k = 2) (name value : ByteArray) : (∃ c, newF k name value = .error c ∧ newF (k + 1) name value = .error c) ∨ ∃ F G, newF k name value = .ok F ∧ newF (k + 1) name value = .ok G ∧ (∀ v, G v = !F v) ∧ (k = 0 → F = fun v => decide (v = value)) := by
  by_cases hm : makeErr [⟨name, ⟨#[120]⟩⟩] = 0
  · rcases hk with rfl | rfl
    · by_cases hl : 64 < value.size
      · exact .inl ⟨41, newF_long (by decide) hm (by decide) hl, newF_long (by decide) hm (by decide) hl⟩
      · exact .inr ⟨_, _, newF_same (by decide) hm (by decide) hl, newF_same (by decide) hm (by decide) hl, fun v => by simp, fun _ => by funext v; simp⟩
    · cases hp : parseP value.data.toList with
      | bad c => exact .inl ⟨c, newF_bad (by decide) hm (by decide) hp, newF_bad (by decide) hm (by decide) hp⟩
      | ok t j => exact .inr ⟨_, _, newF_like (by decide) hm (by decide) hp, newF_like (by decide) hm (by decide) hp, fun v => by simp, fun h => by cases h⟩
  · refine .inl ⟨(makeErr [⟨name, ⟨#[120]⟩⟩] : Nat), ?_, ?_⟩
    · unfold newF; rw [if_neg (by omega), if_pos hm]
    · unfold newF; rw [if_neg (by omega), if_pos hm]

set_option maxHeartbeats 6400000 in
theorem matchOpposites_any (name value v : ByteArray) (w : World) (hn : name.size ≤ 140737488355328) (hv : value.size ≤ 140737488355328) (hx : v.size ≤ 140737488355328) :
    Calls Try.prog 3 #[.string name, .string value, .string v] w fun e w' => e = .returned (.bool true) ∧ Below w.heap.size w w' := by
  have hix := ix_kinds
  go_enter Try.func3, Try.ntmps3
  go_wp2_with (first | (go_at_call 5; refine (wakes08_any _).mono ?_; rintro e w1 ⟨rfl, b1⟩))
  have HB1 := hidden b1
  clear b1
  go_loopw [17] (fun vi wr => ∃ k : Nat, vi = .int .i64 (k : Int) ∧ k ≤ 2 ∧ Hid (Below w.heap.size w wr)) (fun vi _ => 2 - (intOf vi).toNat)
  case atStart => exact ⟨0, rfl, by omega, HB1⟩
  case round =>
    obtain ⟨k, rfl, hk, hb⟩ := hrel
    clear HB1
    by_cases hlt : k < 2
    · have k1 : (k : Int) < 2 := by omega
      have k0 : (0 : Int) ≤ (k : Int) := by omega
      have hi := hix k hlt wr
      have fwk : IntKind.i64.wrap ((k : Int) + 1) = (k : Int) + 1 := Go.IntWalk.i64_in _ (by omega)
      clear hix
      obtain ⟨K, hK⟩ : ∃ K : Int, ((2 * k : Nat) : Int) = K := ⟨_, rfl⟩
      rw [hK] at hi
      have hKK : K = 0 ∨ K = 2 := by omega
      have fwK : IntKind.i64.wrap (K + 1) = K + 1 := Go.IntWalk.i64_in _ (by omega)
      have S1 := hidden (new_any K name value wr hn hv)
      have HP := hidden (newF_pair K hKK name value)
      have HK := hidden hKK
      clear hK hKK
      go_wp2_with fail
      refine S1.out.mono ?_
      rintro e w2 ⟨b2, hy⟩
      have HB2 := hidden (hb.out.trans (b2.mono hb.out.size))
      have S2 := hidden (new_any (K + 1) name value w2 hn hv)
      rcases HP.out with ⟨c, hF, hG⟩ | ⟨F, G, hF, hG, hFG, hF0⟩
      · rw [hF] at hy
        obtain ⟨rfl, hc⟩ := hy
        clear S1 b2
        go_wp2_with fail
        refine S2.out.mono ?_
        rintro e w3 ⟨b3, hz⟩
        rw [hG] at hz
        obtain ⟨rfl, _⟩ := hz
        have HB3 := hidden (HB2.out.trans (b3.mono HB2.out.size))
        have hcc : (c != c) = false := by simp
        clear S2 b3 hF hG
        go_wp2_with fail
        go_roundw
        case rel => exact ⟨k + 1, by go_num, by omega, HB3⟩
        case measure => simp [intOf]; omega
      · rw [hF] at hy
        obtain ⟨M, rfl, hM⟩ := hy
        clear S1
        go_wp2_with fail
        refine S2.out.mono ?_
        rintro e w3 ⟨b3, hz⟩
        rw [hG] at hz
        obtain ⟨N, rfl, hN⟩ := hz
        have HB3 := hidden (HB2.out.trans (b3.mono HB2.out.size))
        have HM := hidden (hM.on b3)
        have HN := hidden hN
        have HFG := hidden hFG
        have HF0 := hidden hF0
        clear S2 b2 b3 hF hG hM hN hFG hF0 HP
        obtain ⟨w4, hw4⟩ : ∃ w4, w3.alloc (.cells #[.string name, .string v] 30) = w4 := ⟨_, rfl⟩
        obtain ⟨q, hq⟩ : ∃ q, q = w3.heap.size := ⟨_, rfl⟩
        have hb4 : Below w3.heap.size w3 w4 := hw4 ▸ (Below.refl _ _).alloc (Nat.le_refl _) _
        have hl4 : LbF w4 (some ⟨q, 0, none⟩) 1 [⟨name, v⟩] := ⟨by
          have := Row.fresh w3 30 2 1 [.string name, .string v] rfl
          rw [← hq] at this
          rw [← hw4]
          exact this.more (by simp; omega), rfl, by decide, fun x hx' => by
            simp only [List.mem_singleton] at hx'
            subst hx'
            exact ⟨hn, hx⟩⟩
        have eg : getL [⟨name, v⟩] name = v := by simp [getL]
        have HM4 := hidden (HM.out.on hb4)
        have HN4 := hidden (HN.out.on hb4)
        have HL4 := hidden hl4
        have HB4 := hidden (HB3.out.trans (hb4.mono HB3.out.size))
        have HW4 := hidden (And.intro hq hw4)
        obtain ⟨f, hf⟩ : ∃ f, F v = f := ⟨_, rfl⟩
        obtain ⟨f0, hf0⟩ : ∃ f0, F ⟨#[]⟩ = f0 := ⟨_, rfl⟩
        have hgf : G v = !f := by rw [HFG.out, hf]
        have SMv := hidden (fun W (hW : Below w4.heap.size w4 W) => mvalue_any M _ _ _ F v W (HM4.out.on hW) hx)
        have SNv := hidden (fun W (hW : Below w4.heap.size w4 W) => mvalue_any N _ _ _ G v W (HN4.out.on hW) hx)
        have SMs := hidden (fun W (hW : Below w4.heap.size w4 W) => mmatches_any M _ _ _ F _ 1 1 _ W (HM4.out.on hW) (HL4.out.on hW))
        have SNs := hidden (fun W (hW : Below w4.heap.size w4 W) => mmatches_any N _ _ _ G _ 1 1 _ W (HN4.out.on hW) (HL4.out.on hW))
        have SMn := hidden (fun W (hW : Below w4.heap.size w4 W) => mmatches_any M _ _ _ F none 0 0 [] W (HM4.out.on hW) ⟨⟨rfl, fun h => absurd h (by omega)⟩, rfl, by decide, by simp⟩)
        have SMe := hidden (fun W (hW : Below w4.heap.size w4 W) => mvalue_any M _ _ _ F ⟨#[]⟩ W (HM4.out.on hW) (by decide))
        have egn : getL [] name = ⟨#[]⟩ := rfl
        simp only [eg, egn, hf, hgf, hf0] at SMv SNv SMs SNs SMn SMe
        have heq : (f == !f) = false := by cases f <;> rfl
        have hne : (f != f) = false := by cases f <;> rfl
        have hne0 : (f0 != f0) = false := by cases f0 <;> rfl
        have HF := hidden hf
        clear hw4 hq hb4 hl4 hf hf0 hgf eg egn HM HN HB3
        go_wp2_with fail
        rw [← HW4.out.1, HW4.out.2]
        refine (SMv.out _ (Below.refl _ _)).mono ?_
        rintro e x0 ⟨rfl, d0⟩
        have D0 := hidden (d0)
        clear d0
        go_wp2_with fail
        refine (SNv.out _ (D0.out)).mono ?_
        rintro e x1 ⟨rfl, d1⟩
        have D1 := hidden (D0.out.trans (d1.mono D0.out.size))
        clear d1
        go_wp2_with fail
        refine (SMs.out _ (D1.out)).mono ?_
        rintro e x2 ⟨rfl, d2⟩
        have D2 := hidden (D1.out.trans (d2.mono D1.out.size))
        clear d2
        go_wp2_with fail
        refine (SNs.out _ (D2.out)).mono ?_
        rintro e x3 ⟨rfl, d3⟩
        have D3 := hidden (D2.out.trans (d3.mono D2.out.size))
        clear d3
        go_wp2_with fail
        refine (SMs.out _ (D3.out)).mono ?_
        rintro e x4 ⟨rfl, d4⟩
        have D4 := hidden (D3.out.trans (d4.mono D3.out.size))
        clear d4
        go_wp2_with fail
        refine (SMv.out _ (D4.out)).mono ?_
        rintro e x5 ⟨rfl, d5⟩
        have D5 := hidden (D4.out.trans (d5.mono D4.out.size))
        clear d5
        go_wp2_with fail
        refine (SMn.out _ (D5.out)).mono ?_
        rintro e x6 ⟨rfl, d6⟩
        have D6 := hidden (D5.out.trans (d6.mono D5.out.size))
        clear d6
        go_wp2_with fail
        refine (SMe.out _ (D6.out)).mono ?_
        rintro e x7 ⟨rfl, d7⟩
        have D7 := hidden (D6.out.trans (d7.mono D6.out.size))
        have HB7 := hidden (HB4.out.trans (D7.out.mono HB4.out.size))
        clear d7
        by_cases hK0 : K = 0
        · have hff : f = decide (v = value) := by rw [← HF.out, HF0.out hK0]
          have e0 : (v.toList == value.toList) = f := by rw [hff]; exact str_eq v value
          subst hK0
          clear hff
          go_wp2_with fail
          refine (SMv.out _ D7.out).mono ?_
          rintro e x8 ⟨rfl, d8⟩
          have HB8 := hidden (HB7.out.trans (d8.mono HB7.out.size))
          go_wp2_with fail
          go_roundw
          case rel => exact ⟨k + 1, by go_num, by omega, HB8⟩
          case measure => simp [intOf]; omega
        · have hKb : (K == 0) = false := by simpa using hK0
          go_wp2_with fail
          go_roundw
          case rel => exact ⟨k + 1, by go_num, by omega, HB7⟩
          case measure => simp [intOf]; omega
    · obtain rfl : k = 2 := by omega
      go_wp2_with fail
      go_ret
      exact ⟨rfl, hb.out⟩

theorem matchOpposites_walk {H : Type} (enc : TypeId × Value → H) : LawWalk enc Try.prog 3 Try.f3 (fun _ => True) := by
  intro W base args ds p hval hA hlt hsz _
  rw [Try.params3] at hval hA hsz
  obtain ⟨v0, vs0, d0, ds0, p0, q0, hargs, rfl, rfl, h0, r0⟩ := trodAll_cons hA
  obtain ⟨v1, vs1, d1, ds1, p1, q1, rfl, rfl, rfl, h1, r1⟩ := trodAll_cons r0
  obtain ⟨v2, vs2, d2, ds2, p2, q2, rfl, rfl, rfl, h2, r2⟩ := trodAll_cons r1
  obtain ⟨rfl, rfl, rfl⟩ := trodAll_nil r2
  obtain rfl : args = #[v0, v1, v2] := by cases args; simp_all
  obtain ⟨s, rfl, hs⟩ := open_text Try.underlying9 (hval 0 9 v0 rfl rfl) h0 (arg_fits (b := Rows.uptoBulkAll [d0, d1, d2]) (j := 0) rfl rfl (fun x hx => hlt x (by simp [hx])) hsz (Nat.le_refl _))
  obtain ⟨r, rfl, hr⟩ := open_text Try.underlying9 (hval 1 9 v1 rfl rfl) h1 (arg_fits (b := Rows.uptoBulkAll [d0, d1, d2]) (j := 1) rfl rfl (fun x hx => hlt x (by simp [hx])) hsz (Nat.le_refl _))
  obtain ⟨t, rfl, ht⟩ := open_text Try.underlying9 (hval 2 9 v2 rfl rfl) h2 (arg_fits (b := Rows.uptoBulkAll [d0, d1, d2]) (j := 2) rfl rfl (fun x hx => hlt x (by simp [hx])) hsz (Nat.le_refl _))
  exact matchOpposites_any ⟨s.toArray⟩ ⟨r.toArray⟩ ⟨t.toArray⟩ W hs hr ht

namespace matchOpposites
set_option maxRecDepth 100000 in
theorem lifted (os : Os) (started : os.Started) (H : Type) (enc : TypeId × Value → H) :
    ReturnsInHanded {} Try.checked os 3 .any (Rows.matchOppositesSpec.pre6 enc Try.prog Try.f3 Rows.matchOppositesRow.domain false) (Rows.matchOppositesSpec.post enc Try.prog Try.f3 false true false false) :=
  law_said (C := Try.checked) (s := Rows.matchOppositesSpec) (tb := 4) own_prog started (by kernel_rfl) Try.func3
    (ChangeSpec.witness6 (enc := enc) (C := Try.checked) false ⟨#[], #[.string ⟨#[]⟩, .string ⟨#[]⟩, .string ⟨#[]⟩], []⟩ 8 (by kernel_rfl) (by kernel_rfl) (by kernel_rfl) (by kernel_rfl))
    laidOut (by kernel_rfl) rfl Try.underlying4 ⟨rfl, fun H ds h => match ds, h with | [_, _, _], _ => ⟨rfl, rfl, rfl⟩⟩ (matchOpposites_walk enc)

theorem proved : Rows.MatchOppositesSaid :=
  OpenClaim.holds_of_wide 3 Try.f3 rfl rfl rfl rfl rfl rfl rfl ⟨rfl, rfl, rfl, rfl, rfl⟩ rfl rfl rfl rfl rfl (by kernel_rfl) Try.func3 (by kernel_rfl)
    (of_decide_eq_true (by kernel_rfl)) (by unfold Func.isWrapper; first | (rw [if_pos (by decide +kernel)]; kernel_rfl) | (rw [if_neg (by decide +kernel)]; exact ⟨rfl, rfl⟩))
    (fun os started H enc _ => lifted os started H enc)
#print axioms proved
end matchOpposites

end Go.Proofs.Ytalnndenncnbdaa
