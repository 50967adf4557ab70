/- index.fitting: the numbers of the sets that a matcher fits. Condition: the index is one, the matcher is one. index.Select: the numbers of the sets that all matchers fit. Condition: the index is one, the matchers are. spans.Clip and the reference's Clip. Condition: the row is within the reach. -/
import Derived.Test.YthncochjhbmceaaGreatPkbb3ea29e
import Derived.StillTailTactics
import Derived.Deep.LoopGhost
import Derived.Laws.IdiomRangeMap
import Derived.Test.YthncochjhbmceaaGreatPka2a7b020
import Derived.Test.YthncochjhbmceaaGreatPk584e6475
import Derived.Test.YthncochjhbmceaaGreatPkd35221e3
namespace Go.Proofs.YthncochjhbmceaaGreat
set_option maxRecDepth 100000
open Go.RowKit Go.Shelf

theorem infoPC : (Tryz.prog.info? 208).map (fun i => (i.zero, i.size, i.bytes)) = some (some (.pointer none), 1, 8) := by kernel_rfl
set_option maxHeartbeats 6400000 in
theorem idx_fit (w : World) {base p : Nat} {E : List (List Lbl)} (h : Idx w base p E) (hE : E.length ≤ 1048576) (M : Nat) (kind : Int) (name value : ByteArray) (F : ByteArray → Bool) (hM : MatAt w M kind name value F) :
    Calls Tryz.prog 80 #[.pointer (some ⟨p, 0, none⟩), .pointer (some ⟨M, 0, none⟩)] w (FCR w fun S => ∀ z, z ∈ S ↔ fitE E name F z) := by
  have HV := hidden h.valid.1
  have HI := hidden h
  obtain ⟨i0, hi, hz0, hz1, hz2⟩ := info_parts infoPC
  obtain ⟨sv, L, bn, bl, mn, ml, oM, oI, h, rfl⟩ := h
  have S1 := hidden (mvalue_any M kind name value F ⟨#[]⟩ w hM (by decide))
  have H := hidden h
  have HM := hidden hM
  clear h hM
  obtain ⟨b0, hb0⟩ : ∃ b, F ⟨#[]⟩ = b := ⟨_, rfl⟩
  rw [hb0] at S1
  have HB0 := hidden hb0
  clear hb0
  go_enter Tryz.func80, Tryz.ntmps80
  go_wp2_with fail
  refine S1.out.mono ?_
  rintro e w1 ⟨rfl, b1⟩
  have H1 := hidden (H.out.turn (Turn.of_below b1 0 [] false) (by simp) (by simp) (by simp) (by simp))
  have HM1 := hidden (HM.out.on b1)
  have HB1 := hidden b1
  clear S1 b1
  go_upto_region 3 with (fail)
  have c2 := H1.out.b.blk.cell 2
  have hNm := hidden (fun w' (hb : Below w1.heap.size w1 w') => mname_any M kind name value F w' (HM1.out.on hb))
  have hMd : MapV IsStr w1.drew bl ml := H1.out.lists.map.kept rfl
  have hL := hMd.look keyStr hMd.strs Tryz.underlying169 (zero_mm w1.drew) (key := .string name) ⟨_, rfl⟩ false
  simp only [Bool.false_eq_true, if_false] at hL
  have S2 := hidden (hNm.out w1.drew (Below.refl _ _).drew)
  clear hMd
  go_still_tail 7, (by kernel_rfl)
  still_call S2.out
  cases hat : atV ml (.string name) with
  | none =>
    rw [hat] at hL
    simp only [Option.getD_none] at hL
    repeat still_step
    refine wpStill_nil ?_
    show wpList _ _ _ _ _ w1.drew
    have hrg := run_range_nilMap (P := Tryz.prog) w1.drew 186 9 127 Tryz.underlying186
    have hnx : ∀ ty, (Instr.next (.pointer (some ⟨w1.heap.size, 0, none⟩)) false ty).run Tryz.prog ((w1.alloc (.mapIter none 0 #[] 0)).drew) = .ok (.tuple #[.bool false]) ((w1.alloc (.mapIter none 0 #[] 0)).drew) := fun ty => run_next_nilMap w1.drew ty 0 0 #[]
    have hno : ∀ y ∈ flatE (L.map SetR.l), y.2.name ≠ name := fun y hy e => H.out.lists.miss name hat ⟨y, hy, e⟩
    have hB3 : Below w.heap.size w ((w1.alloc (.mapIter none 0 #[] 0)).drew) := (HB1.out.alloc HB1.out.size _).drew
    have hK := hidden (KOwn.nil w _ hB3)
    have hQ : ∀ z, (∃ y ∈ ([] : List Kid), z ∈ y.E) ↔ hasW (L.map SetR.l) name (fun v => F v ≠ b0) z := fun z => ⟨fun ⟨y, hy, _⟩ => by simp at hy, fun h => absurd h (hasW_none hno _ z)⟩
    clear hno hB3
    go_wp2_with fail
    refine wp_loop_rounds 1 ?_
    rw [rounds_succ]
    have hcl : ([] : List Kid).length ≤ 1099511627776 := by simp
    cases b0 with
    | false =>
      obtain ⟨A, c, e6, hO⟩ := orE_fit hK.out hcl hQ
      cases e6
      have SO := hidden hO
      clear hQ hO
      go_wp2_with fail
      refine SO.out.mono ?_
      rintro e w5 ⟨a, S, G, rfl, hF, hS⟩
      have HF := hidden (show FCR w (fun S => ∀ z, z ∈ S ↔ fitE (L.map SetR.l) name F z) (.returned (.pointer a)) w5 from ⟨a, S, G, rfl, hF, fun z => (hS z).trans (fit_false HB0.out z).symm⟩)
      clear hF hS SO
      go_wp2_with fail
      go_ret
      exact HF.out
    | true =>
      have SA := hidden (idx_all _ (HI.out.below hK.out.below) hE)
      have HQ := hidden hQ
      clear hQ
      go_wp2_with fail
      refine SA.out.mono ?_
      rintro e w4 ⟨a1, E1, F1, rfl, ⟨k1, f1, b4⟩, rfl⟩
      obtain ⟨A, c, e6, hkr⟩ := (hK.out.on b4).kids (by omega)
      cases e6
      have SO := hidden (fun c' => or_any _ _ c' [] w4 hkr)
      have HC1 := hidden (And.intro k1 (And.intro f1 b4))
      clear SA hkr k1 f1 b4
      go_wp2_with fail
      refine (SO.out _).mono ?_
      rintro e w5 ⟨p2, E2, F2, rfl, k2, hE2, f2, b5⟩
      obtain ⟨a2, rfl⟩ := isCur_ptr k2
      have hold := hK.out.old
      have hbel := hK.out.below
      have hoff := hK.out.gOf
      have SW := hidden (without_any ⟨.pointer a1, _, F1⟩ ⟨.pointer a2, E2, F2⟩ w5 (isCur_on HC1.out.1 b5) k2 fun k ⟨g1, g2⟩ => by
        have q1 := HC1.out.2.1 k g1
        have q2 := isCur_old _ _ _ _ HC1.out.1 k g1
        rcases f2 k g2 with h | ⟨y, hy, h⟩
        · omega
        · have := hold y hy k h; omega)
      have HNew := hidden (show ∀ e w6, NewCur w5 (fun k => F1 k ∨ F2 k) (fun E => ∀ z, z ∈ E ↔ z ∈ upL (L.map SetR.l).length ∧ z ∉ E2) e w6 → FCR w (fun S => ∀ z, z ∈ S ↔ fitE (L.map SetR.l) name F z) e w6 from fun e w6 hN => by
        have hs1 := hbel.size
        have hs2 := HC1.out.2.2.size
        obtain ⟨a, S, G, r1, r2, r3⟩ := fcr_new (ws := w) hN (fun k hk => by
          rcases hk with hk | hk
          · have := HC1.out.2.1 k hk; omega
          · rcases f2 k hk with h | h
            · omega
            · exact hoff k h) (hbel.trans ((HC1.out.2.2.trans (b5.mono hs2)).mono hs1))
        exact ⟨a, S, G, r1, r2, fun z => (r3 z).trans ((and_congr Iff.rfl (not_congr ((hE2 z).trans (HQ.out z)))).trans (fit_true HB0.out z).symm)⟩)
      clear SO k2 hE2 f2 b5 hold hbel hoff
      go_wp2_with fail
      refine SW.out.mono ?_
      intro e w6 hN
      have HF := hidden (HNew.out e w6 hN)
      obtain ⟨p6, E6, F6, rfl, _⟩ := hN
      clear SW
      go_wp2_with fail
      go_ret
      exact HF.out
  | some u =>
    rw [hat] at hL
    simp only [Option.getD_some] at hL
    obtain ⟨hN, bi, mi, rfl, hbi, hbne, hoM, hmi, hI⟩ := H.out.lists.hit name u hat
    have HIN := hidden hI
    have hMIn := hmi.nodup
    have hMIs := hmi.2
    have hMIl : mi.length ≤ 8 * 1048576 := by
      have h1 := strs_lenE hmi.nodup hmi.2 (b := (flatE (L.map SetR.l)).map fun y => y.2.value) (fun s hs => by
        obtain ⟨v, hv⟩ := Option.ne_none_iff_exists'.1 hs
        obtain ⟨⟨y, hy, e⟩, _⟩ := hI.hit s v hv
        exact List.mem_map.2 ⟨y, hy, by rw [e]⟩)
      rw [List.length_map] at h1
      have h2 := flatE_len (L.map SetR.l) fun l hl => (valid_small (HV.out l hl)).1
      omega
    have hmd : MapV IsStr w1.drew bi mi := hmi.kept ((HB1.out.drew).block bi hmi.lt)
    clear hN hbi hbne hoM hI hmi
    repeat still_step
    refine wpStill_nil ?_
    show wpList _ _ _ _ _ w1.drew
    obtain ⟨w3, hrg, hR3, hg3, hz3⟩ := hmd.range (P := Tryz.prog) Tryz.underlying186
    obtain ⟨r, hr⟩ : ∃ r, w1.heap.size = r := ⟨_, rfl⟩
    have hr2 : w1.drew.heap.size = r := hr
    rw [hr2] at hR3 hrg
    have HRr := hidden (show w.heap.size ≤ r by have := HB1.out.size; omega)
    have hB3 : Below w.heap.size w w3 := (HB1.out.drew).grown hg3 HB1.out.size (fun q hq => by cases hq)
    have HR3 := hidden hR3
    have HK0 := hidden (KOwn.nil w w3 hB3)
    have HW := hidden (with_iff HIN.out HV.out)
    have HSub := hidden (show ∀ come w', RangeV IsStr w' bi r mi come → ∀ p ∈ come, p ∈ mi from fun come w' ⟨_, _, _, _, _, _, _, _, _, _, _, _, _, _, _, h⟩ => h)
    have HND := hidden hMIn
    have HMS := hidden hMIs
    have HLen := hidden hMIl
    clear hR3 hg3 hz3 hB3 hmd hL c2 hNm S2 hat
    clear hr hr2
    go_wp2_with fail
    clear hrg
    go_loopg [6] mi.length (fun k v wz => ∃ (come : List (Value × Value)) (cs : List Kid), come.length + k = mi.length ∧ Hid (cs.length ≤ come.length) ∧ Hid (RangeV IsStr wz bi r mi come) ∧ Hid (KOwn w wz v cs) ∧ Hid (∀ y ∈ cs, ¬ y.F r) ∧ Hid (∀ z, (∃ y ∈ cs, z ∈ y.E) ↔ ∃ p ∈ come, ∃ vl u, p = (Value.string vl, u) ∧ F vl ≠ b0 ∧ z ∈ ixs (flatE (L.map SetR.l)) ⟨name, vl⟩))
    case atStart => exact ⟨[], [], by simp, hidden (Nat.le_refl _), HR3, HK0, hidden (by simp), hidden fun z => by simp⟩
    case round =>
      obtain ⟨come, cs, hck, hcc, hrv, hK, hFr, hiff⟩ := hrel
      clear HR3 HK0
      go_wp2_with (at_next; refine wpList_next _ rfl _ rfl bi r mi come rfl hrv.out ?_ ?_)
      · intro hdone
        have hQ : ∀ z, (∃ y ∈ cs, z ∈ y.E) ↔ hasW (L.map SetR.l) name (fun v => F v ≠ b0) z := fun z => by
          refine (hiff.out z).trans (Iff.trans ?_ (HW.out _ z))
          exact ⟨fun ⟨p, hp, h⟩ => ⟨p, HSub.out _ _ hrv.out p hp, h⟩, fun ⟨p, hp, h⟩ => ⟨p, hdone p.1 p.2 hp, h⟩⟩
        have hcl : cs.length ≤ 1099511627776 := by
          have := hcc.out
          have hm := HLen.out
          omega
        obtain ⟨A6, c6, rfl, _, _⟩ := own_shape hK.out.row
        cases b0 with
        | false =>
          obtain ⟨A, c, e6, hO⟩ := orE_fit hK.out hcl hQ
          cases e6
          have SO := hidden hO
          clear hQ hO hdone hiff hFr
          go_wp2_with fail
          refine SO.out.mono ?_
          rintro e w5 ⟨a, S, G, rfl, hF, hS⟩
          have HF := hidden (show FCR w (fun S => ∀ z, z ∈ S ↔ fitE (L.map SetR.l) name F z) (.returned (.pointer a)) w5 from ⟨a, S, G, rfl, hF, fun z => (hS z).trans (fit_false HB0.out z).symm⟩)
          clear hF hS SO
          go_wp2_with fail
          go_ret
          exact HF.out
        | true =>
          have SA := hidden (idx_all wr (HI.out.below hK.out.below) hE)
          have HQ := hidden hQ
          clear hQ hdone hiff hFr
          go_wp2_with fail
          refine SA.out.mono ?_
          rintro e w4 ⟨a1, E1, F1, rfl, ⟨k1, f1, b4⟩, rfl⟩
          obtain ⟨A, c, e6, hkr⟩ := (hK.out.on b4).kids (by omega)
          cases e6
          have SO := hidden (fun c' => or_any _ _ c' cs w4 hkr)
          have HC1 := hidden (And.intro k1 (And.intro f1 b4))
          clear SA hkr k1 f1 b4
          go_wp2_with fail
          refine (SO.out _).mono ?_
          rintro e w5 ⟨p2, E2, F2, rfl, k2, hE2, f2, b5⟩
          obtain ⟨a2, rfl⟩ := isCur_ptr k2
          have hold := hK.out.old
          have hbel := hK.out.below
          have hoff := hK.out.gOf
          have SW := hidden (without_any ⟨.pointer a1, _, F1⟩ ⟨.pointer a2, E2, F2⟩ w5 (isCur_on HC1.out.1 b5) k2 fun k ⟨g1, g2⟩ => by
            have q1 := HC1.out.2.1 k g1
            have q2 := isCur_old _ _ _ _ HC1.out.1 k g1
            rcases f2 k g2 with h | ⟨y, hy, h⟩
            · omega
            · have := hold y hy k h; omega)
          have HNew := hidden (show ∀ e w6, NewCur w5 (fun k => F1 k ∨ F2 k) (fun E => ∀ z, z ∈ E ↔ z ∈ upL (L.map SetR.l).length ∧ z ∉ E2) e w6 → FCR w (fun S => ∀ z, z ∈ S ↔ fitE (L.map SetR.l) name F z) e w6 from fun e w6 hN => by
            have hs1 := hbel.size
            have hs2 := HC1.out.2.2.size
            obtain ⟨a, S, G, r1, r2, r3⟩ := fcr_new (ws := w) hN (fun k hk => by
              rcases hk with hk | hk
              · have := HC1.out.2.1 k hk; omega
              · rcases f2 k hk with h | h
                · omega
                · exact hoff k h) (hbel.trans ((HC1.out.2.2.trans (b5.mono hs2)).mono hs1))
            exact ⟨a, S, G, r1, r2, fun z => (r3 z).trans ((and_congr Iff.rfl (not_congr ((hE2 z).trans (HQ.out z)))).trans (fit_true HB0.out z).symm)⟩)
          clear SO k2 hE2 f2 b5 hold hbel hoff
          go_wp2_with fail
          refine SW.out.mono ?_
          intro e w6 hN
          have HF := hidden (HNew.out e w6 hN)
          obtain ⟨p6, E6, F6, rfl, _⟩ := hN
          clear SW
          go_wp2_with fail
          go_ret
          exact HF.out
      · intro pk pv wx hp hpn hrx hgx hsx hex
        have hfew := hrv.out.fewer hp hpn
        obtain ⟨vl, rfl⟩ : IsStr pk := HMS.out _ hp
        have hat := atV_of_mem mi HND.out _ _ hp
        obtain ⟨_, how, _⟩ := HIN.out.hit vl pv hat
        obtain ⟨hvl, hin, hlen⟩ := inner_small HIN.out HV.out hat hE
        have hKx := hK.out.iter hrv.out hgx HRr.out hFr.out
        have HKX := hidden hKx
        obtain ⟨l, hl⟩ : ∃ l, ixs (flatE (L.map SetR.l)) ⟨name, vl⟩ = l := ⟨_, rfl⟩
        rw [hl] at how hin hlen
        obtain ⟨Av, cv, rfl, _, _⟩ := own_shape how
        have HL := hidden hl
        have HOW := hidden (own_below how hKx.below (Nat.le_refl _))
        have HIN2 := hidden hin
        have S3 := hidden (mvalue_any M kind name value F vl wx (HM.out.on hKx.below) hvl)
        have HRX := hidden hrx
        have HP := hidden hp
        clear how hKx hat hrx hgx hsx hin hvl hK hl hp hpn
        go_wp2_with fail
        clear hex
        refine S3.out.mono ?_
        rintro e w4 ⟨rfl, b4⟩
        have HK4 := hidden (HKX.out.on b4)
        have HR4 := hidden (HRX.out.on b4)
        have HO4 := hidden (own_below HOW.out b4 (Nat.le_refl _))
        obtain ⟨d, hd⟩ : ∃ d, (F vl == b0) = d := ⟨_, rfl⟩
        have HD := hidden hd
        have hrlt := hidden HRX.out.lt
        have hb4s := b4.size
        clear S3 b4 HKX HRX HOW
        cases d with
        | true =>
          go_wp2_with fail
          go_roundg (mi.length - (come.length + 1))
          case measure => omega
          case rel =>
            refine ⟨_, cs, by simp; omega, hidden (by have := hcc.out; simp; omega), HR4, HK4, hFr, hidden fun z => (hiff.out z).trans ⟨fun ⟨p, hp, h⟩ => ⟨p, List.mem_append_left _ hp, h⟩, fun ⟨p, hp, vl', u', e, h1, h2⟩ => ?_⟩⟩
            rcases List.mem_append.1 hp with hp | hp
            · exact ⟨p, hp, vl', u', e, h1, h2⟩
            · obtain rfl := List.mem_singleton.1 hp
              cases e
              exact absurd (by simpa using HD.out) h1
        | false =>
          have hne : F vl ≠ b0 := by have := HD.out; simpa using this
          have HNE := hidden hne
          obtain ⟨A5, c5, e5, hf5⟩ := intF_own HO4.out rfl (by omega) HIN2.out
          cases e5
          have SF := hidden (ofF Av l.length cv l w4 hf5)
          clear hne hf5
          go_wp2_with fail
          refine SF.out.mono ?_
          rintro e w5 ⟨a5, S5, F5, rfl, hF5, hm5, _⟩
          have hK5 := HK4.out.on hF5.2.2
          have hR5 := HR4.out.on hF5.2.2
          have HF5 := hidden hF5
          have HM5 := hidden hm5
          have ho5 := hK5.row
          have HR5 := hidden hR5
          have hbs := hK5.below.size
          have hfr := Row.fresh w5 208 1 1 [.pointer a5] rfl
          have hcs : cs.length ≤ 8 * 1048576 := by have := hcc.out; have := HLen.out; omega
          clear hF5 hm5 hK5 hR5 SF
          go_wp2_with (at_builtin; refine wpList_app _ rfl _ _ 210 rfl w.heap.size 208 i0 _ 1 8 Tryz.underlying210 hi hz0 hz1 hz2 rfl (by decide) _ _ _ rfl (ho5.alloc _) _ _ _ _ _ rfl hfr (by simp [Value.oneCell']) (by unfold maxLen; omega) (by omega) (by simp; omega) ?_; intro v6 w6 hown6 hg6 hat6)
          have HK6 := hidden (HK4.out.add HF5.out hown6 hg6 hat6)
          have HR6 := hidden ((HR5.out.on ((Below.refl w5.heap.size w5).alloc (Nat.le_refl _) _)).grown (ho5.alloc _) hg6)
          have HFR6 := hidden (show ∀ y ∈ cs ++ [(⟨.pointer a5, S5, F5⟩ : Kid)], ¬ y.F r from fun y hy => by
            rcases List.mem_append.1 hy with hy | hy
            · exact hFr.out y hy
            · obtain rfl := List.mem_singleton.1 hy
              intro hk
              have := HF5.out.2.1 r hk
              have := hrlt.out
              omega)
          clear hown6 hg6 hat6 ho5 hfr
          go_roundg (mi.length - (come.length + 1))
          case measure => omega
          case rel =>
            refine ⟨_, _, by simp; omega, hidden (by have := hcc.out; simp; omega), HR6, HK6, HFR6, hidden fun z => ⟨fun ⟨y, hy, hz⟩ => ?_, fun ⟨p, hp, vl', u', e, h1, h2⟩ => ?_⟩⟩
            · rcases List.mem_append.1 hy with hy | hy
              · obtain ⟨p, hp, h⟩ := (hiff.out z).1 ⟨y, hy, hz⟩
                exact ⟨p, List.mem_append_left _ hp, h⟩
              · obtain rfl := List.mem_singleton.1 hy
                exact ⟨_, List.mem_append_right _ (List.mem_singleton.2 rfl), vl, _, rfl, HNE.out, by rw [HL.out]; exact (HM5.out z).1 hz⟩
            · rcases List.mem_append.1 hp with hp | hp
              · obtain ⟨y, hy, hz⟩ := (hiff.out z).2 ⟨p, hp, vl', u', e, h1, h2⟩
                exact ⟨y, List.mem_append_left _ hy, hz⟩
              · obtain rfl := List.mem_singleton.1 hp
                cases e
                rw [HL.out] at h2
                exact ⟨_, List.mem_append_right _ (List.mem_singleton.2 rfl), (HM5.out z).2 h2⟩
end Go.Proofs.YthncochjhbmceaaGreat

namespace Go.Proofs.YthncochjhbmceaaGreat
set_option maxRecDepth 100000
open Go.RowKit Go.Shelf

theorem mtRow_ptrs {w : World} {A : Option Addr} {n : Nat} {ms : List Mt} (h : MtRow w A n ms) : Row w w.heap.size 1 A n ((ms.map fun x => (⟨x.M, 0, none⟩ : Addr)).map ptrV) := by
  rw [List.map_map]; exact h.row
/-- the sets that all of them fit -/
def selE (E : List (List Lbl)) (ms : List Mt) (z : Int) : Prop := ∃ (i : Nat) (l : List Lbl), E[i]? = some l ∧ z = (i : Int) ∧ allM l ms = true
theorem selE_nil {E : List (List Lbl)} {z : Int} : selE E [] z ↔ z ∈ upL E.length := by
  rw [mem_upL]
  constructor
  · rintro ⟨i, l, h1, rfl, _⟩
    obtain ⟨hi, _⟩ := List.getElem?_eq_some_iff.1 h1
    omega
  · rintro ⟨h1, h2⟩
    exact ⟨z.toNat, _, List.getElem?_eq_getElem (by omega), by omega, rfl⟩
theorem selE_snoc {E : List (List Lbl)} {ms : List Mt} {x : Mt} {z : Int} : selE E (ms ++ [x]) z ↔ selE E ms z ∧ fitE E x.name x.F z := by
  constructor
  · rintro ⟨i, l, h1, rfl, h3⟩
    simp only [allM, List.all_append, List.all_cons, List.all_nil, Bool.and_true, Bool.and_eq_true] at h3
    exact ⟨⟨i, l, h1, rfl, h3.1⟩, ⟨i, l, h1, rfl, h3.2⟩⟩
  · rintro ⟨⟨i, l, h1, rfl, h3⟩, ⟨j, l', k1, e, k3⟩⟩
    obtain rfl : i = j := by omega
    rw [h1] at k1
    obtain rfl := Option.some.inj k1
    refine ⟨i, l, h1, rfl, ?_⟩
    simp only [allM, List.all_append, List.all_cons, List.all_nil, Bool.and_true, Bool.and_eq_true]
    exact ⟨h3, k3⟩
/-- one cursor in a fresh row -/
theorem kown_one {w0 w2 : World} {a : Option Addr} {E : List Int} {F : Nat → Prop} (h : FC w0 w2 (.pointer a) E F) : KOwn w0 (w2.alloc (.cells #[.pointer a] 208)) (.slice (some ⟨w2.heap.size, 0, none⟩) 1 1) [⟨.pointer a, E, F⟩] := by
  obtain ⟨h1, h2, h3⟩ := h
  refine ⟨?_, ?_, List.pairwise_singleton _ _, ?_, h3.alloc h3.size _⟩
  · exact ⟨rfl, .inr ⟨w2.heap.size, 1, #[.pointer a], rfl, h3.size, Whole1.new w2 _ _, Nat.le_refl _, by decide, rfl, rfl⟩⟩
  · simp only [List.mem_cons, List.not_mem_nil, or_false, forall_eq]
    exact isCur_on h1 ((Below.refl _ _).alloc (Nat.le_refl _) _)
  · simp only [List.mem_cons, List.not_mem_nil, or_false, forall_eq]
    intro k hk
    have := isCur_old _ _ _ _ h1 k hk
    refine ⟨h2 k hk, ?_⟩
    simp only [Value.ownBlock, ne_eq, Option.some.injEq]
    omega
set_option maxHeartbeats 3200000 in
theorem idx_select (w : World) {base p : Nat} {E : List (List Lbl)} (h : Idx w base p E) (hE : E.length ≤ 1048576) (A : Option Addr) (m c : Nat) (ms : List Mt) (hm : MtRow w A m ms) (hmf : m ≤ 1048576) :
    Calls Tryz.prog 44 #[.pointer (some ⟨p, 0, none⟩), .slice A m c] w fun e w' => ∃ A' c' S, e = .returned (.slice A' S.length c') ∧ IntF w' A' S.length S ∧ rising S ∧ (∀ z, z ∈ S ↔ selE E ms z) ∧ Below w.heap.size w w' := by
  obtain ⟨i0, hi, hz0, hz1, hz2⟩ := info_parts infoPC
  have S0 := hidden (mcon_none A m c _ w (mtRow_ptrs hm) (by rw [List.length_map, hm.len]) (by omega))
  have S1 := hidden (idx_all w h hE)
  have HI := hidden h
  have HM := hidden hm
  clear h hm
  go_enter Tryz.func44, Tryz.ntmps44
  go_wp2_with fail
  refine S0.out.mono ?_
  rintro e w1 ⟨rfl, rfl⟩
  clear S0
  go_wp2_with fail
  refine S1.out.mono ?_
  rintro e w2 ⟨a, S, F, rfl, hF, rfl⟩
  have HK := hidden (kown_one hF)
  clear hF S1
  go_wp2_with fail
  generalize w2.alloc (.cells #[.pointer a] 208) = w3 at *
  obtain ⟨X, hX⟩ : ∃ X, w2.heap.size = X := ⟨_, rfl⟩
  rw [hX] at HK ⊢
  clear hX
  go_loopw [5, 19] (fun vp vi wr => ∃ (k : Nat) (cs : List Kid), k ≤ m ∧ vi = .int .i64 k ∧ Hid (cs.length = k + 1) ∧ Hid (KOwn w1 wr vp cs) ∧ Hid (∀ z, (∀ y ∈ cs, z ∈ y.E) ↔ selE E (ms.take k) z)) (fun _ vi _ => m - (intOf vi).toNat)
  case atStart => exact ⟨0, _, Nat.zero_le _, rfl, hidden rfl, HK, hidden fun z => by simp [selE_nil]⟩
  case round =>
    obtain ⟨k, cs, hk, rfl, hcl, hK, hm⟩ := hrel
    clear HK
    have k0 : (0 : Int) ≤ (k : Int) := by omega
    by_cases hlt : k < m
    · have k1 : (k : Int) < (m : Int) := by omega
      have fwk : IntKind.i64.wrap ((k : Int) + 1) = (k : Int) + 1 := Go.IntWalk.i64_in _ (by omega)
      have HLT := hidden (show k + 1 ≤ m from hlt)
      obtain ⟨g, o, x, rfl, hg, hx, ck, hx2⟩ := mt_cell (HM.out.on hK.out.below) hlt
      have S2 := hidden (idx_fit wr (HI.out.below hK.out.below) hE x.M x.kind x.name x.value x.F hx2)
      have HX := hidden hx
      clear hx hx2
      go_wp2_with fail
      refine S2.out.mono ?_
      rintro e w4 ⟨a4, S4, F4, rfl, hF4, hS4⟩
      have ho4 := (hK.out.on hF4.2.2).row
      have HF4 := hidden hF4
      have HS4 := hidden hS4
      have hbs := (hK.out.on hF4.2.2).below.size
      have hfr := Row.fresh w4 208 1 1 [.pointer a4] rfl
      have hcs := hcl.out
      have hcs2 : cs.length ≤ 1048577 := by omega
      clear S2 hF4 hS4 hcs
      go_wp2_with (at_builtin; refine wpList_app _ rfl _ _ 210 rfl w1.heap.size 208 i0 _ 1 8 Tryz.underlying210 hi hz0 hz1 hz2 rfl (by decide) _ _ _ rfl (ho4.alloc _) _ _ _ _ _ rfl hfr (by simp [Value.oneCell']) (by unfold maxLen; omega) (by omega) (by simp; omega) ?_; intro v6 w6 hown6 hg6 hat6)
      have HK6 := hidden (hK.out.add HF4.out hown6 hg6 hat6)
      clear hown6 hg6 hat6 ho4 hfr
      go_roundw
      case rel =>
        refine ⟨k + 1, _, HLT.out, by go_num, hidden (by have := hcl.out; simp; omega), HK6, hidden fun z => ?_⟩
        rw [List.take_add_one, HX.out, Option.toList_some, selE_snoc, ← hm.out z, ← HS4.out z]
        exact ⟨fun h => ⟨fun y hy => h y (List.mem_append_left _ hy), h _ (List.mem_append_right _ (List.mem_singleton.2 rfl))⟩, fun ⟨h1, h2⟩ y hy => by
          rcases List.mem_append.1 hy with hy | hy
          · exact h1 y hy
          · obtain rfl := List.mem_singleton.1 hy
            exact h2⟩
      case measure => have := HLT.out; simp [intOf]; omega
    · obtain rfl : m = k := by omega
      have hml := HM.out.len
      have hm2 : Hid (∀ z, (∀ y ∈ cs, z ∈ y.E) ↔ selE E ms z) := by
        have := hm.out
        rwa [List.take_of_length_le (by omega)] at this
      have hcs := hcl.out
      obtain ⟨A6, c6, e6, hkr⟩ := hK.out.kids (by omega)
      subst e6
      have hne : cs ≠ [] := fun e => by rw [e] at hcs; simp at hcs
      have HNew := hidden (show ∀ e w6, NewCur wr (gOf cs) (fun E => ∀ x, x ∈ E ↔ cs ≠ [] ∧ ∀ y ∈ cs, x ∈ y.E) e w6 → FCR w1 (fun S => ∀ z, z ∈ S ↔ selE E ms z) e w6 from fun e w6 hN => by
        obtain ⟨a, S, G, r1, r2, r3⟩ := fcr_new hN hK.out.gOf hK.out.below
        exact ⟨a, S, G, r1, r2, fun z => (r3 z).trans ⟨fun h => (hm2.out z).1 h.2, fun h => ⟨hne, (hm2.out z).2 h⟩⟩⟩)
      have SA := hidden (fun c' => and_any A6 cs.length c' cs wr hkr)
      clear hkr hne hcs hm hm2
      go_wp2_with fail
      refine (SA.out _).mono ?_
      intro e w5 hN
      obtain ⟨a5, S5, F5, rfl, hF5, hS5⟩ := HNew.out e w5 hN
      have hr5 := (isCur_rise _ _ _ _ hF5.1).1
      have hl5 : S5.length ≤ 1048576 := by
        have h1 := rising_le hr5 (l := upL E.length) fun z hz => by
          obtain ⟨i, l, h1, rfl, _⟩ := (hS5 z).1 hz
          have := (List.getElem?_eq_some_iff.1 h1).1
          exact mem_upL.2 ⟨by omega, by omega⟩
        rw [upL_len] at h1
        omega
      have SR := hidden (restF hF5 (by omega))
      have HR5 := hidden (And.intro hr5 hS5)
      clear SA hN HNew hF5 hS5 hr5
      go_wp2_with fail
      refine SR.out.mono ?_
      rintro e w6 ⟨A7, c7, rfl, hf7, hb7⟩
      have HF7 := hidden (And.intro hf7 hb7)
      clear hf7 hb7 SR
      go_wp2_with fail
      go_ret
      exact ⟨A7, c7, S5, rfl, HF7.out.1, HR5.out.1, HR5.out.2, HF7.out.2⟩
end Go.Proofs.YthncochjhbmceaaGreat

namespace Go.Proofs.YthncochjhbmceaaGreat
set_option maxRecDepth 100000
open Go.RowKit Go.Shelf

theorem clip1_max (a b : Int) (x : Spn) : clip1S a b x = ⟨max x.frm a, min x.til b⟩ := by
  unfold clip1S
  congr 1
  · split <;> omega
  · split <;> omega
theorem set_step {R : List Spn} {k : Nat} {x : Spn} (f : Spn → Spn) (h : R[k]? = some x) : ((R.take k).map f ++ R.drop k).set k (f x) = (R.take (k + 1)).map f ++ R.drop (k + 1) := by
  have hk := (List.getElem?_eq_some_iff.1 h).1
  have hl : ((R.take k).map f).length = k := by simp; omega
  rw [take_snoc? h, PutG.drop_cons? h, List.set_append_right _ _ (by omega), hl, Nat.sub_self]
  simp
set_option maxHeartbeats 6400000 in
theorem clipSpn_any (A : Option Addr) (n c : Nat) (l : List Spn) (a b : Int) (w : World) (hr : Row w w.heap.size 2 A n (l.flatMap Spn.cells)) (hl : l.length = n) (hn : n * 16 ≤ 140737488351232) (hok : ∀ x ∈ l, x.ok) (ha : -9223372036854775808 ≤ a ∧ a < 9223372036854775808) (hb : -9223372036854775808 ≤ b ∧ b < 9223372036854775808) :
    Calls Tryz.prog 43 #[.slice A n c, .int .i64 a, .int .i64 b] w fun e w' => ∃ v R, e = .returned v ∧ w'.ownsRow w.heap.size 33 2 v (clipS a b R).length ((clipS a b R).flatMap Spn.cells) ∧ OfRes l R ∧ (clipS a b R).length ≤ n ∧ Below w.heap.size w w' := by
  have HOF := hidden (spnOf_any A n c l w hr hl hn hok)
  have HOK := hidden hok
  clear hr hl hok
  go_enter Tryz.func43, Tryz.ntmps43
  go_wp2_with fail
  refine HOF.out.mono ?_
  rintro e w1 ⟨v, R, rfl, ho, hR, hlen, hb1⟩
  obtain ⟨m, hm⟩ : ∃ m, R.length = m := ⟨_, rfl⟩
  rw [hm] at ho hlen
  obtain ⟨A2, c2, rfl, hc2, _⟩ := own_shape ho
  have HR := hidden hR
  have HM := hidden hm
  have B1 := hidden hb1
  clear hR hm HOF
  go_wp2_with fail
  go_loopw [14] (fun i wr => ∃ k : Nat, k ≤ m ∧ i = .int .i64 k ∧ wr.ownsRow w.heap.size 33 2 (.slice A2 m c2) m (((R.take k).map (clip1S a b) ++ R.drop k).flatMap Spn.cells) ∧ Below w.heap.size w wr) (fun i _ => m - (intOf i).toNat)
  case atStart => exact ⟨0, Nat.zero_le _, rfl, ho, hb1⟩
  case round =>
    obtain ⟨k, hk, rfl, hown, hbr⟩ := hrel
    by_cases hlt : k < m
    · obtain ⟨g, cap, rest, hv, hg, hw, hnc, hc, _, hm2⟩ := own_whole_g spnK hown (by omega)
      injection hv with hA _ hcc
      subst hA hcc
      obtain ⟨x, hx⟩ : ∃ x, R[k]? = some x := ⟨_, List.getElem?_eq_getElem (by rw [HM.out]; exact hlt)⟩
      have hlk : ((R.take k).map (clip1S a b)).length = k := by rw [List.length_map, List.length_take, HM.out]; omega
      have hxk : ((R.take k).map (clip1S a b) ++ R.drop k)[k]? = some x := by
        rw [List.getElem?_append_right (by omega), hlk, Nat.sub_self, PutG.drop_cons? hx]; rfl
      have c0 : wr.cell? ⟨g, k * 2, none⟩ = some (.int .i64 x.frm) := whole_at spnK hw hxk 0 (by omega)
      have c1 : wr.cell? ⟨g, k * 2 + 1, none⟩ = some (.int .i64 x.til) := whole_at spnK hw hxk 1 (by omega)
      have k0 : (0 : Int) ≤ (k : Int) := by omega
      have k1 : (k : Int) < (m : Int) := by omega
      have HX := hidden hx
      have HXK := hidden hxk
      have HLK := hidden hlk
      have hbs := hbr.size
      have hgl := hw.lt
      have hW2 := hw.alloc (.cells #[.int .i64 x.frm, .int .i64 x.til] 33)
      have z0 := hW2.free (k * 2)
      have z1 := hW2.free (k * 2 + 1)
      have hb2 := hbr.alloc hbs (.cells #[.int .i64 x.frm, .int .i64 x.til] 33)
      have HW2 := hidden hW2
      clear hx hxk hlk hown hw hW2
      go_upto_region 5 with (fail)
      have hY := Whole1.new wr 33 #[.int .i64 x.frm, .int .i64 x.til]
      have HW3 := HW2.out
      generalize wr.alloc (.cells #[.int .i64 x.frm, .int .i64 x.til] 33) = w2 at hY HW3 hb2 z0 z1 ⊢
      obtain ⟨X, hX⟩ : ∃ X, wr.heap.size = X := ⟨_, rfl⟩
      rw [hX] at hY hgl ⊢
      have y0 := hY.cell 0
      have y1 := hY.cell 1
      have e0 : w2.cell? ⟨g, k * 2, none⟩ = some (.int .i64 x.frm) := whole_at spnK HW3 HXK.out 0 (by omega)
      have e1 : w2.cell? ⟨g, k * 2 + 1, none⟩ = some (.int .i64 x.til) := whole_at spnK HW3 HXK.out 1 (by omega)
      have HB2 := hidden hb2
      have HW4 := hidden HW3
      clear hY hX c0 c1 HW3 hb2
      go_wp2_with fail
      go_roundw
      case rel =>
        have hW5 := puts_elem spnK HW4.out (i := k) (by rw [List.length_append, HLK.out, List.length_drop, HM.out]; omega) (clip1S a b x)
        rw [set_step _ HX.out] at hW5
        have e5 : (clip1S a b x).cells = [.int .i64 (max x.frm a), .int .i64 (min x.til b)] := by rw [clip1_max]; rfl
        rw [e5] at hW5
        refine ⟨k + 1, by omega, by go_num, own_of_whole_g spnK hg hW5 hnc hc (by rw [List.length_append, List.length_map, List.length_take, List.length_drop, HM.out]; omega) ?_, below_gb HB2.out (puts_gb [.int .i64 (max x.frm a), .int .i64 (min x.til b)] (k * 2) w2) HB2.out.size hg⟩
        rw [List.length_append, fm_len spnK] at hm2 ⊢
        have : ((R.take (k + 1)).map (clip1S a b) ++ R.drop (k + 1)).length = ((R.take k).map (clip1S a b) ++ R.drop k).length := by
          rw [List.length_append, List.length_append, List.length_map, List.length_map, List.length_take, List.length_take, List.length_drop, List.length_drop, HM.out]; omega
        rw [this]; exact hm2
      case measure => simp [intOf]; omega
    · obtain rfl : m = k := by omega
      have hE : (R.take m).map (clip1S a b) ++ R.drop m = R.map (clip1S a b) := by
        rw [List.take_of_length_le (by rw [HM.out]; exact Nat.le_refl _), List.drop_eq_nil_of_le (by rw [HM.out]; exact Nat.le_refl _), List.append_nil]
      rw [hE] at hown
      have S2 := hidden (spnOf_any A2 m c2 (R.map (clip1S a b)) wr (Row.of_own hown) (by rw [List.length_map]; exact HM.out) (by omega) (fun x hx => by
        obtain ⟨y, hy, rfl⟩ := List.mem_map.1 hx
        obtain ⟨y1, y2, y3, y4⟩ := HR.out.ok HOK.out y hy
        rw [clip1_max]
        exact ⟨by show _ ≤ max y.frm a; omega, by show max y.frm a < _; omega, by show _ ≤ min y.til b; omega, by show min y.til b < _; omega⟩))
      have HBR := hidden hbr
      clear hown hE hbr
      go_wp2_with fail
      refine S2.out.mono ?_
      rintro e w3 ⟨v3, R3, rfl, ho3, hR3, hl3, hb3⟩
      have he := clipS_of HR.out.one hR3
      subst he
      have HO3 := hidden ho3
      have HB3 := hidden hb3
      clear ho3 hb3 hR3 S2
      go_wp2_with fail
      go_ret
      exact ⟨_, R, rfl, own_more HO3.out HBR.out.size, HR.out, by omega, HBR.out.trans (HB3.out.mono HBR.out.size)⟩
theorem clipS_le (a b : Int) (l : List Spn) : (clipS a b l).length ≤ l.length := by
  unfold clipS fullS
  refine Nat.le_trans (List.length_filter_le _ _) ?_
  rw [List.length_map]; exact Nat.le_refl _
end Go.Proofs.YthncochjhbmceaaGreat
