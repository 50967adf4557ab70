/- index.fitting: the numbers of the sets that a matcher fits. Condition: the index is one, the matcher is one. -/
import Derived.Test.YtbijjjhfekkfaaaGreatIdxFitP
import Derived.StillTailTactics
import Derived.Deep.LoopGhost
import Derived.Laws.IdiomRangeMap
namespace Go.Proofs.YtbijjjhfekkfaaaGreat
set_option maxRecDepth 100000
open Go.RowKit Go.Shelf

theorem infoPC : (Tryz.prog.info? 183).map (fun i => (i.zero, i.size, i.bytes)) = some (some (.pointer none), 1, 8) := by kernel_rfl
set_option maxHeartbeats 6400000 in
theorem idx_fit (w : World) {base p : Nat} {E : List (List Lbl)} (h : Idx w base p E) (hE : E.length ≤ 1048576) (M : Nat) (kind : Int) (name value : ByteArray) (F : ByteArray → Bool) (hM : MatAt w M kind name value F) :
    Calls Tryz.prog 86 #[.pointer (some ⟨p, 0, none⟩), .pointer (some ⟨M, 0, none⟩)] w (FCR w fun S => ∀ z, z ∈ S ↔ fitE E name F z) := by
  have HV := hidden h.valid.1
  have HI := hidden h
  obtain ⟨i0, hi, hz0, hz1, hz2⟩ := info_parts infoPC
  obtain ⟨sv, L, bn, bl, mn, ml, oM, oI, h, rfl⟩ := h
  have S1 := hidden (mvalue_any M kind name value F ⟨#[]⟩ w hM (by decide))
  have H := hidden h
  have HM := hidden hM
  clear h hM
  obtain ⟨b0, hb0⟩ : ∃ b, F ⟨#[]⟩ = b := ⟨_, rfl⟩
  rw [hb0] at S1
  have HB0 := hidden hb0
  clear hb0
  go_enter Tryz.func86, Tryz.ntmps86
  go_wp2_with fail
  refine S1.out.mono ?_
  rintro e w1 ⟨rfl, b1⟩
  have H1 := hidden (H.out.turn (Turn.of_below b1 0 [] false) (by simp) (by simp) (by simp) (by simp))
  have HM1 := hidden (HM.out.on b1)
  have HB1 := hidden b1
  clear S1 b1
  go_upto_region 3 with (fail)
  have c2 := H1.out.b.blk.cell 2
  have hNm := hidden (fun w' (hb : Below w1.heap.size w1 w') => mname_any M kind name value F w' (HM1.out.on hb))
  have hMd : MapV IsStr w1.drew bl ml := H1.out.lists.map.kept rfl
  have hL := hMd.look keyStr hMd.strs Tryz.underlying190 (zero_mm w1.drew) (key := .string name) ⟨_, rfl⟩ false
  simp only [Bool.false_eq_true, if_false] at hL
  have S2 := hidden (hNm.out w1.drew (Below.refl _ _).drew)
  clear hMd
  go_still_tail 7, (by kernel_rfl)
  still_call S2.out
  cases hat : atV ml (.string name) with
  | none =>
    rw [hat] at hL
    simp only [Option.getD_none] at hL
    repeat still_step
    refine wpStill_nil ?_
    show wpList _ _ _ _ _ w1.drew
    have hrg := run_range_nilMap (P := Tryz.prog) w1.drew 296 9 67 Tryz.underlying296
    have hnx : ∀ ty, (Instr.next (.pointer (some ⟨w1.heap.size, 0, none⟩)) false ty).run Tryz.prog ((w1.alloc (.mapIter none 0 #[] 0)).drew) = .ok (.tuple #[.bool false]) ((w1.alloc (.mapIter none 0 #[] 0)).drew) := fun ty => run_next_nilMap w1.drew ty 0 0 #[]
    have hno : ∀ y ∈ flatE (L.map SetR.l), y.2.name ≠ name := fun y hy e => H.out.lists.miss name hat ⟨y, hy, e⟩
    have hB3 : Below w.heap.size w ((w1.alloc (.mapIter none 0 #[] 0)).drew) := (HB1.out.alloc HB1.out.size _).drew
    have hK := hidden (KOwn.nil w _ hB3)
    have hQ : ∀ z, (∃ y ∈ ([] : List Kid), z ∈ y.E) ↔ hasW (L.map SetR.l) name (fun v => F v ≠ b0) z := fun z => ⟨fun ⟨y, hy, _⟩ => by simp at hy, fun h => absurd h (hasW_none hno _ z)⟩
    clear hno hB3
    go_wp2_with fail
    refine wp_loop_rounds 1 ?_
    rw [rounds_succ]
    have hcl : ([] : List Kid).length ≤ 1099511627776 := by simp
    cases b0 with
    | false =>
      obtain ⟨A, c, e6, hO⟩ := orE_fit hK.out hcl hQ
      cases e6
      have SO := hidden hO
      clear hQ hO
      go_wp2_with fail
      refine SO.out.mono ?_
      rintro e w5 ⟨a, S, G, rfl, hF, hS⟩
      have HF := hidden (show FCR w (fun S => ∀ z, z ∈ S ↔ fitE (L.map SetR.l) name F z) (.returned (.pointer a)) w5 from ⟨a, S, G, rfl, hF, fun z => (hS z).trans (fit_false HB0.out z).symm⟩)
      clear hF hS SO
      go_wp2_with fail
      go_ret
      exact HF.out
    | true =>
      have SA := hidden (idx_all _ (HI.out.below hK.out.below) hE)
      have HQ := hidden hQ
      clear hQ
      go_wp2_with fail
      refine SA.out.mono ?_
      rintro e w4 ⟨a1, E1, F1, rfl, ⟨k1, f1, b4⟩, rfl⟩
      obtain ⟨A, c, e6, hkr⟩ := (hK.out.on b4).kids (by omega)
      cases e6
      have SO := hidden (fun c' => or_any _ _ c' [] w4 hkr)
      have HC1 := hidden (And.intro k1 (And.intro f1 b4))
      clear SA hkr k1 f1 b4
      go_wp2_with fail
      refine (SO.out _).mono ?_
      rintro e w5 ⟨p2, E2, F2, rfl, k2, hE2, f2, b5⟩
      obtain ⟨a2, rfl⟩ := isCur_ptr k2
      have hold := hK.out.old
      have hbel := hK.out.below
      have hoff := hK.out.gOf
      have SW := hidden (without_any ⟨.pointer a1, _, F1⟩ ⟨.pointer a2, E2, F2⟩ w5 (isCur_on HC1.out.1 b5) k2 fun k ⟨g1, g2⟩ => by
        have q1 := HC1.out.2.1 k g1
        have q2 := isCur_old _ _ _ _ HC1.out.1 k g1
        rcases f2 k g2 with h | ⟨y, hy, h⟩
        · omega
        · have := hold y hy k h; omega)
      have HNew := hidden (show ∀ e w6, NewCur w5 (fun k => F1 k ∨ F2 k) (fun E => ∀ z, z ∈ E ↔ z ∈ upL (L.map SetR.l).length ∧ z ∉ E2) e w6 → FCR w (fun S => ∀ z, z ∈ S ↔ fitE (L.map SetR.l) name F z) e w6 from fun e w6 hN => by
        have hs1 := hbel.size
        have hs2 := HC1.out.2.2.size
        obtain ⟨a, S, G, r1, r2, r3⟩ := fcr_new (ws := w) hN (fun k hk => by
          rcases hk with hk | hk
          · have := HC1.out.2.1 k hk; omega
          · rcases f2 k hk with h | h
            · omega
            · exact hoff k h) (hbel.trans ((HC1.out.2.2.trans (b5.mono hs2)).mono hs1))
        exact ⟨a, S, G, r1, r2, fun z => (r3 z).trans ((and_congr Iff.rfl (not_congr ((hE2 z).trans (HQ.out z)))).trans (fit_true HB0.out z).symm)⟩)
      clear SO k2 hE2 f2 b5 hold hbel hoff
      go_wp2_with fail
      refine SW.out.mono ?_
      intro e w6 hN
      have HF := hidden (HNew.out e w6 hN)
      obtain ⟨p6, E6, F6, rfl, _⟩ := hN
      clear SW
      go_wp2_with fail
      go_ret
      exact HF.out
  | some u =>
    rw [hat] at hL
    simp only [Option.getD_some] at hL
    obtain ⟨hN, bi, mi, rfl, hbi, hbne, hoM, hmi, hI⟩ := H.out.lists.hit name u hat
    have HIN := hidden hI
    have hMIn := hmi.nodup
    have hMIs := hmi.2
    have hMIl : mi.length ≤ 8 * 1048576 := by
      have h1 := strs_lenE hmi.nodup hmi.2 (b := (flatE (L.map SetR.l)).map fun y => y.2.value) (fun s hs => by
        obtain ⟨v, hv⟩ := Option.ne_none_iff_exists'.1 hs
        obtain ⟨⟨y, hy, e⟩, _⟩ := hI.hit s v hv
        exact List.mem_map.2 ⟨y, hy, by rw [e]⟩)
      rw [List.length_map] at h1
      have h2 := flatE_len (L.map SetR.l) fun l hl => (valid_small (HV.out l hl)).1
      omega
    have hmd : MapV IsStr w1.drew bi mi := hmi.kept ((HB1.out.drew).block bi hmi.lt)
    clear hN hbi hbne hoM hI hmi
    repeat still_step
    refine wpStill_nil ?_
    show wpList _ _ _ _ _ w1.drew
    obtain ⟨w3, hrg, hR3, hg3, hz3⟩ := hmd.range (P := Tryz.prog) Tryz.underlying296
    obtain ⟨r, hr⟩ : ∃ r, w1.heap.size = r := ⟨_, rfl⟩
    have hr2 : w1.drew.heap.size = r := hr
    rw [hr2] at hR3 hrg
    have HRr := hidden (show w.heap.size ≤ r by have := HB1.out.size; omega)
    have hB3 : Below w.heap.size w w3 := (HB1.out.drew).grown hg3 HB1.out.size (fun q hq => by cases hq)
    have HR3 := hidden hR3
    have HK0 := hidden (KOwn.nil w w3 hB3)
    have HW := hidden (with_iff HIN.out HV.out)
    have HSub := hidden (show ∀ come w', RangeV IsStr w' bi r mi come → ∀ p ∈ come, p ∈ mi from fun come w' ⟨_, _, _, _, _, _, _, _, _, _, _, _, _, _, _, h⟩ => h)
    have HND := hidden hMIn
    have HMS := hidden hMIs
    have HLen := hidden hMIl
    clear hR3 hg3 hz3 hB3 hmd hL c2 hNm S2 hat
    clear hr hr2
    go_wp2_with fail
    clear hrg
    go_loopg [6] mi.length (fun k v wz => ∃ (come : List (Value × Value)) (cs : List Kid), come.length + k = mi.length ∧ Hid (cs.length ≤ come.length) ∧ Hid (RangeV IsStr wz bi r mi come) ∧ Hid (KOwn w wz v cs) ∧ Hid (∀ y ∈ cs, ¬ y.F r) ∧ Hid (∀ z, (∃ y ∈ cs, z ∈ y.E) ↔ ∃ p ∈ come, ∃ vl u, p = (Value.string vl, u) ∧ F vl ≠ b0 ∧ z ∈ ixs (flatE (L.map SetR.l)) ⟨name, vl⟩))
    case atStart => exact ⟨[], [], by simp, hidden (Nat.le_refl _), HR3, HK0, hidden (by simp), hidden fun z => by simp⟩
    case round =>
      obtain ⟨come, cs, hck, hcc, hrv, hK, hFr, hiff⟩ := hrel
      clear HR3 HK0
      go_wp2_with (at_next; refine wpList_next _ rfl _ rfl bi r mi come rfl hrv.out ?_ ?_)
      · intro hdone
        have hQ : ∀ z, (∃ y ∈ cs, z ∈ y.E) ↔ hasW (L.map SetR.l) name (fun v => F v ≠ b0) z := fun z => by
          refine (hiff.out z).trans (Iff.trans ?_ (HW.out _ z))
          exact ⟨fun ⟨p, hp, h⟩ => ⟨p, HSub.out _ _ hrv.out p hp, h⟩, fun ⟨p, hp, h⟩ => ⟨p, hdone p.1 p.2 hp, h⟩⟩
        have hcl : cs.length ≤ 1099511627776 := by
          have := hcc.out
          have hm := HLen.out
          omega
        obtain ⟨A6, c6, rfl, _, _⟩ := own_shape hK.out.row
        cases b0 with
        | false =>
          obtain ⟨A, c, e6, hO⟩ := orE_fit hK.out hcl hQ
          cases e6
          have SO := hidden hO
          clear hQ hO hdone hiff hFr
          go_wp2_with fail
          refine SO.out.mono ?_
          rintro e w5 ⟨a, S, G, rfl, hF, hS⟩
          have HF := hidden (show FCR w (fun S => ∀ z, z ∈ S ↔ fitE (L.map SetR.l) name F z) (.returned (.pointer a)) w5 from ⟨a, S, G, rfl, hF, fun z => (hS z).trans (fit_false HB0.out z).symm⟩)
          clear hF hS SO
          go_wp2_with fail
          go_ret
          exact HF.out
        | true =>
          have SA := hidden (idx_all wr (HI.out.below hK.out.below) hE)
          have HQ := hidden hQ
          clear hQ hdone hiff hFr
          go_wp2_with fail
          refine SA.out.mono ?_
          rintro e w4 ⟨a1, E1, F1, rfl, ⟨k1, f1, b4⟩, rfl⟩
          obtain ⟨A, c, e6, hkr⟩ := (hK.out.on b4).kids (by omega)
          cases e6
          have SO := hidden (fun c' => or_any _ _ c' cs w4 hkr)
          have HC1 := hidden (And.intro k1 (And.intro f1 b4))
          clear SA hkr k1 f1 b4
          go_wp2_with fail
          refine (SO.out _).mono ?_
          rintro e w5 ⟨p2, E2, F2, rfl, k2, hE2, f2, b5⟩
          obtain ⟨a2, rfl⟩ := isCur_ptr k2
          have hold := hK.out.old
          have hbel := hK.out.below
          have hoff := hK.out.gOf
          have SW := hidden (without_any ⟨.pointer a1, _, F1⟩ ⟨.pointer a2, E2, F2⟩ w5 (isCur_on HC1.out.1 b5) k2 fun k ⟨g1, g2⟩ => by
            have q1 := HC1.out.2.1 k g1
            have q2 := isCur_old _ _ _ _ HC1.out.1 k g1
            rcases f2 k g2 with h | ⟨y, hy, h⟩
            · omega
            · have := hold y hy k h; omega)
          have HNew := hidden (show ∀ e w6, NewCur w5 (fun k => F1 k ∨ F2 k) (fun E => ∀ z, z ∈ E ↔ z ∈ upL (L.map SetR.l).length ∧ z ∉ E2) e w6 → FCR w (fun S => ∀ z, z ∈ S ↔ fitE (L.map SetR.l) name F z) e w6 from fun e w6 hN => by
            have hs1 := hbel.size
            have hs2 := HC1.out.2.2.size
            obtain ⟨a, S, G, r1, r2, r3⟩ := fcr_new (ws := w) hN (fun k hk => by
              rcases hk with hk | hk
              · have := HC1.out.2.1 k hk; omega
              · rcases f2 k hk with h | h
                · omega
                · exact hoff k h) (hbel.trans ((HC1.out.2.2.trans (b5.mono hs2)).mono hs1))
            exact ⟨a, S, G, r1, r2, fun z => (r3 z).trans ((and_congr Iff.rfl (not_congr ((hE2 z).trans (HQ.out z)))).trans (fit_true HB0.out z).symm)⟩)
          clear SO k2 hE2 f2 b5 hold hbel hoff
          go_wp2_with fail
          refine SW.out.mono ?_
          intro e w6 hN
          have HF := hidden (HNew.out e w6 hN)
          obtain ⟨p6, E6, F6, rfl, _⟩ := hN
          clear SW
          go_wp2_with fail
          go_ret
          exact HF.out
      · intro pk pv wx hp hpn hrx hgx hsx hex
        have hfew := hrv.out.fewer hp hpn
        obtain ⟨vl, rfl⟩ : IsStr pk := HMS.out _ hp
        have hat := atV_of_mem mi HND.out _ _ hp
        obtain ⟨_, how, _⟩ := HIN.out.hit vl pv hat
        obtain ⟨hvl, hin, hlen⟩ := inner_small HIN.out HV.out hat hE
        have hKx := hK.out.iter hrv.out hgx HRr.out hFr.out
        have HKX := hidden hKx
        obtain ⟨l, hl⟩ : ∃ l, ixs (flatE (L.map SetR.l)) ⟨name, vl⟩ = l := ⟨_, rfl⟩
        rw [hl] at how hin hlen
        obtain ⟨Av, cv, rfl, _, _⟩ := own_shape how
        have HL := hidden hl
        have HOW := hidden (own_below how hKx.below (Nat.le_refl _))
        have HIN2 := hidden hin
        have S3 := hidden (mvalue_any M kind name value F vl wx (HM.out.on hKx.below) hvl)
        have HRX := hidden hrx
        have HP := hidden hp
        clear how hKx hat hrx hgx hsx hin hvl hK hl hp hpn
        go_wp2_with fail
        clear hex
        refine S3.out.mono ?_
        rintro e w4 ⟨rfl, b4⟩
        have HK4 := hidden (HKX.out.on b4)
        have HR4 := hidden (HRX.out.on b4)
        have HO4 := hidden (own_below HOW.out b4 (Nat.le_refl _))
        obtain ⟨d, hd⟩ : ∃ d, (F vl == b0) = d := ⟨_, rfl⟩
        have HD := hidden hd
        have hrlt := hidden HRX.out.lt
        have hb4s := b4.size
        clear S3 b4 HKX HRX HOW
        cases d with
        | true =>
          go_wp2_with fail
          go_roundg (mi.length - (come.length + 1))
          case measure => omega
          case rel =>
            refine ⟨_, cs, by simp; omega, hidden (by have := hcc.out; simp; omega), HR4, HK4, hFr, hidden fun z => (hiff.out z).trans ⟨fun ⟨p, hp, h⟩ => ⟨p, List.mem_append_left _ hp, h⟩, fun ⟨p, hp, vl', u', e, h1, h2⟩ => ?_⟩⟩
            rcases List.mem_append.1 hp with hp | hp
            · exact ⟨p, hp, vl', u', e, h1, h2⟩
            · obtain rfl := List.mem_singleton.1 hp
              cases e
              exact absurd (by simpa using HD.out) h1
        | false =>
          have hne : F vl ≠ b0 := by have := HD.out; simpa using this
          have HNE := hidden hne
          obtain ⟨A5, c5, e5, hf5⟩ := intF_own HO4.out rfl (by omega) HIN2.out
          cases e5
          have SF := hidden (ofF Av l.length cv l w4 hf5)
          clear hne hf5
          go_wp2_with fail
          refine SF.out.mono ?_
          rintro e w5 ⟨a5, S5, F5, rfl, hF5, hm5, _⟩
          have hK5 := HK4.out.on hF5.2.2
          have hR5 := HR4.out.on hF5.2.2
          have HF5 := hidden hF5
          have HM5 := hidden hm5
          have ho5 := hK5.row
          have HR5 := hidden hR5
          have hbs := hK5.below.size
          have hfr := Row.fresh w5 183 1 1 [.pointer a5] rfl
          have hcs : cs.length ≤ 8 * 1048576 := by have := hcc.out; have := HLen.out; omega
          clear hF5 hm5 hK5 hR5 SF
          go_wp2_with (at_builtin; refine wpList_app _ rfl _ _ 185 rfl w.heap.size 183 i0 _ 1 8 Tryz.underlying185 hi hz0 hz1 hz2 rfl (by decide) _ _ _ rfl (ho5.alloc _) _ _ _ _ _ rfl hfr (by simp [Value.oneCell']) (by unfold maxLen; omega) (by omega) (by simp; omega) ?_; intro v6 w6 hown6 hg6 hat6)
          have HK6 := hidden (HK4.out.add HF5.out hown6 hg6 hat6)
          have HR6 := hidden ((HR5.out.on ((Below.refl w5.heap.size w5).alloc (Nat.le_refl _) _)).grown (ho5.alloc _) hg6)
          have HFR6 := hidden (show ∀ y ∈ cs ++ [(⟨.pointer a5, S5, F5⟩ : Kid)], ¬ y.F r from fun y hy => by
            rcases List.mem_append.1 hy with hy | hy
            · exact hFr.out y hy
            · obtain rfl := List.mem_singleton.1 hy
              intro hk
              have := HF5.out.2.1 r hk
              have := hrlt.out
              omega)
          clear hown6 hg6 hat6 ho5 hfr
          go_roundg (mi.length - (come.length + 1))
          case measure => omega
          case rel =>
            refine ⟨_, _, by simp; omega, hidden (by have := hcc.out; simp; omega), HR6, HK6, HFR6, hidden fun z => ⟨fun ⟨y, hy, hz⟩ => ?_, fun ⟨p, hp, vl', u', e, h1, h2⟩ => ?_⟩⟩
            · rcases List.mem_append.1 hy with hy | hy
              · obtain ⟨p, hp, h⟩ := (hiff.out z).1 ⟨y, hy, hz⟩
                exact ⟨p, List.mem_append_left _ hp, h⟩
              · obtain rfl := List.mem_singleton.1 hy
                exact ⟨_, List.mem_append_right _ (List.mem_singleton.2 rfl), vl, _, rfl, HNE.out, by rw [HL.out]; exact (HM5.out z).1 hz⟩
            · rcases List.mem_append.1 hp with hp | hp
              · obtain ⟨y, hy, hz⟩ := (hiff.out z).2 ⟨p, hp, vl', u', e, h1, h2⟩
                exact ⟨y, List.mem_append_left _ hy, hz⟩
              · obtain rfl := List.mem_singleton.1 hp
                cases e
                rw [HL.out] at h2
                exact ⟨_, List.mem_append_right _ (List.mem_singleton.2 rfl), (HM5.out z).2 h2⟩
end Go.Proofs.YtbijjjhfekkfaaaGreat
