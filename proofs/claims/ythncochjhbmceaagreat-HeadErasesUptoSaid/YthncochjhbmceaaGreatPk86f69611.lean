/- What Erase told, applied; what Raw needs of the head before and after. Condition: the head is one, its times are within the range. The law's helpers labelsRef and samplesRef (chapter 18): what they return. Condition: the rows are within the reach. The law's helper alike (chapter 18), at one series. Condition: the rows are within the reach. -/
import Derived.Test.YthncochjhbmceaaGreatPkf9befb46
import Derived.Test.YthncochjhbmceaaGreatPk749e0937
import Derived.Test.YthncochjhbmceaaGreatPk3cebd00f
import Derived.Test.YthncochjhbmceaaGreatPkbc8588bb
import Derived.Deep.RegionHeld3
namespace Go.Proofs.YthncochjhbmceaaGreat
set_option maxRecDepth 100000
open Go.RowKit

theorem mem_gonesP : ∀ (G : List (Int × Int × List Spn)) (S : List SerP) (s : SerP), s ∈ gonesP S G → ∃ s0 ∈ S, s.sm = s0.sm ∧ s.mx = s0.mx ∧ (s.gone = s0.gone ∨ ∃ q ∈ G, s.gone = q.2.2)
  | [], S, s, h => ⟨s, h, rfl, rfl, .inl rfl⟩
  | q :: G, S, s, h => by
    obtain ⟨s1, h1, e1, e2, e3⟩ := mem_gonesP G (goneP S q) s h
    have key : s1 ∈ S ∨ ∃ s0 ∈ S, s1 = ⟨s0.mx, q.2.2, s0.sm⟩ := by
      unfold goneP at h1
      split at h1
      · rename_i s0 hs0
        rcases List.mem_or_eq_of_mem_set h1 with h2 | h2
        · exact .inl h2
        · exact .inr ⟨s0, List.mem_of_getElem? hs0, h2⟩
      · exact .inl h1
    rcases key with h2 | ⟨s0, h2, rfl⟩
    · exact ⟨s1, h2, e1, e2, e3.imp id fun ⟨p, hp, e⟩ => ⟨p, List.mem_cons_of_mem _ hp, e⟩⟩
    · refine ⟨s0, h2, e1, e2, .inr ?_⟩
      rcases e3 with e | ⟨p, hp, e⟩
      · exact ⟨q, by simp, e⟩
      · exact ⟨p, List.mem_cons_of_mem _ hp, e⟩
theorem MadeH.raw {w : World} {base h c : Nat} {E : List (List Lbl)} {X : List HsR} (k : MadeH w base h E X c) (hc : c ≤ 1048576) : RawI (X.map HsR.p) := by
  refine ⟨fun s hs => ⟨fun x hx => ?_, ?_⟩, fun s hs => ?_⟩
  · have h1 := k.inv.mx s hs
    have h2 := k.inv.sm s hs x hx
    omega
  · exact Nat.le_trans (sm_le_cnt hs) (Nat.le_trans k.cnt hc)
  · rw [k.inv.gone s hs]
    exact ⟨by simp, by simp⟩
theorem rawI_left {S : List SerP} {mx : List Int} {T : List Spn} {Z : List Int} (h : RawI S) (hg : ∀ s ∈ S, s.gone = []) (hT : ∀ y ∈ T, y.ok) (hTl : T.length ≤ 1) (hm : ∀ z, -9223372036854775808 ≤ mx.getD z (-1) ∧ mx.getD z (-1) < 9223372036854775808) : RawI (gonesP S (eraL mx T Z)) := by
  refine ⟨fun s hs => ?_, fun s hs => ?_⟩
  · obtain ⟨s0, h0, e1, _, _⟩ := mem_gonesP _ _ s hs
    rw [e1]
    exact h.sm s0 h0
  · obtain ⟨s0, h0, _, _, e⟩ := mem_gonesP _ _ s hs
    rcases e with e | ⟨q, hq, e⟩
    · rw [e, hg s0 h0]
      exact ⟨by simp, by simp⟩
    · obtain ⟨z, _, rfl⟩ := List.mem_map.1 (List.mem_filter.1 hq).1
      rw [e]
      refine ⟨clipS_ok hT (by decide) (hm _), ?_⟩
      have := clipS_le 0 (mx.getD z.toNat (-1)) T
      simp only [eraG]
      omega
theorem mx_getD {X : List HsR} (h : ∀ x ∈ X, -9223372036854775808 ≤ x.mx ∧ x.mx < 9223372036854775808) (z : Nat) : -9223372036854775808 ≤ (X.map HsR.mx).getD z (-1) ∧ (X.map HsR.mx).getD z (-1) < 9223372036854775808 := by
  rw [List.getD_eq_getElem?_getD, List.getElem?_map]
  cases hx : X[z]? with
  | none => simp
  | some x => exact h x (List.mem_of_getElem? hx)
/-- what the taking tells, one by one -/
theorem gon_of {G : List GonR} {E : List (List Lbl)} {mx : List Int} {T : List Spn} {ms : List Mt} (hq : G.map GonR.q = eraL mx T (fitsTo E ms E.length)) {g : GonR} (hg : g ∈ G) : ∃ i : Nat, i < E.length ∧ g.ref = (i : Int) ∧ g.res = 0 ∧ g.sp.l = clipS 0 (mx.getD i (-1)) T ∧ 0 < g.sp.l.length := by
  have h1 : g.q ∈ eraL mx T (fitsTo E ms E.length) := hq ▸ List.mem_map_of_mem hg
  obtain ⟨h2, h3⟩ := List.mem_filter.1 h1
  obtain ⟨z, hz, e⟩ := List.mem_map.1 h2
  obtain ⟨i, _, hi, _, rfl, _⟩ := mem_fitsTo.1 hz
  have h4 := of_decide_eq_true h3
  simp only [eraG, GonR.q, Int.toNat_natCast, Prod.mk.injEq] at e h4
  exact ⟨i, hi, e.1.symm, e.2.1.symm, e.2.2.symm, h4⟩
theorem gon_few {G : List GonR} {E : List (List Lbl)} {mx : List Int} {T : List Spn} {ms : List Mt} (hq : G.map GonR.q = eraL mx T (fitsTo E ms E.length)) : G.length ≤ E.length := by
  have h1 := congrArg List.length hq
  rw [List.length_map] at h1
  rw [h1]
  refine Nat.le_trans (List.length_filter_le _ _) ?_
  rw [List.length_map]
  exact fitsTo_len _ _ _
theorem gon_sum : ∀ {G : List GonR}, (∀ g ∈ G, g.sp.n ≤ 1) → (G.map fun x => x.sp.n).sum ≤ G.length
  | [], _ => by simp
  | g :: G, h => by
    have ih := gon_sum (G := G) fun g hg => h g (List.mem_cons_of_mem _ hg)
    have := h g (by simp)
    simp only [List.map_cons, List.sum_cons, List.length_cons]
    omega
/-- what Erase told, applied -/
theorem apply_gon (w : World) {base bo h : Nat} {E : List (List Lbl)} {X : List HsR} {gv : Value} {G : List GonR} {T : List Spn} {ms : List Mt} (hh : Hed w base h E X) (hbase : base ≤ w.heap.size) (hg : GonO w bo gv G) (hq : G.map GonR.q = eraL (X.map HsR.mx) T (fitsTo E ms E.length)) (hT : OneS T) (hTok : ∀ y ∈ T, y.ok) (hTl : T.length ≤ 1) (hmx : ∀ x ∈ X, -9223372036854775808 ≤ x.mx ∧ x.mx < 9223372036854775808) (hX : ∀ x ∈ X, x.gone = []) (hE : E.length ≤ 1048576) :
    Calls Tryz.prog 9 #[.pointer (some ⟨h, 0, none⟩), .agg #[.slice none 0 0, .slice none 0 0, gv]] w fun e w' => (∃ z : Int, e = .returned (.int .i64 z)) ∧ ∃ X', Hed w' base h E X' ∧ X'.map HsR.p = gonesP (X.map HsR.p) (G.map GonR.q) ∧ Turn base [107] false w w' := by
  obtain ⟨Ag, cg, rfl, hcg, hrg⟩ := own_shape hg.row
  have hfew := gon_few hq
  have hsp : ∀ g ∈ G, g.sp.At w w.heap.size 2 Spn.cells := fun g hgm => by
    obtain ⟨h1, h2⟩ := hg.spn g hgm
    obtain ⟨A, c, e, hc, hr⟩ := own_shape h1
    simp only [Sl.val, Value.slice.injEq, true_and] at e
    obtain ⟨e1, e2⟩ := e
    subst e1 e2
    exact ⟨hc, h2, hr⟩
  have hon : ∀ g ∈ G, g.sp.n ≤ 1 := fun g hgm => by
    obtain ⟨i, _, _, _, e, _⟩ := gon_of hq hgm
    have h1 := clipS_le 0 ((X.map HsR.mx).getD i (-1)) T
    rw [← e, (hg.spn g hgm).2] at h1
    omega
  have hr : RecO w bo ⟨Sl.nil, Sl.nil, ⟨Ag, G.length, cg, G⟩⟩ := by
    refine ⟨⟨⟨Nat.le_refl _, rfl, Row.nil⟩, by simp [Sl.nil], by simp [Sl.nil], ⟨Nat.le_refl _, rfl, Row.nil⟩, by simp [Sl.nil], ⟨hcg, rfl, hrg⟩, fun g hgm => ⟨hsp g hgm, ?_⟩, fun g hgm => ?_, ?_⟩, World.ownsRow_nil _ _ _ _, by simp [Sl.nil], World.ownsRow_nil _ _ _ _, hg.row, fun g hgm => (hg.spn g hgm).1⟩
    · obtain ⟨i, _, _, _, e, _⟩ := gon_of hq hgm
      rw [e]
      exact clipS_ok hTok (by decide) (mx_getD hmx i)
    · obtain ⟨i, hi, e1, e2, _⟩ := gon_of hq hgm
      omega
    · have := gon_sum hon
      simp only [Sl.nil]
      omega
  by_cases h0 : G = []
  · subst h0
    have hnf : ¬ fitRec ⟨Sl.nil, Sl.nil, ⟨Ag, ([] : List GonR).length, cg, []⟩⟩ := fun hf => by
      have := hf.2.2.2
      simp [Sl.nil] at this
    refine (hed_apply_no h _ w hr.at_ hnf).mono ?_
    rintro e w' ⟨rfl, hb⟩
    exact ⟨⟨_, rfl⟩, X, hh.below hb, rfl, Turn.of_below hb _ _ _⟩
  · have hf : fitRec ⟨Sl.nil, Sl.nil, ⟨Ag, G.length, cg, G⟩⟩ := by
      refine ⟨by simp [Sl.nil], by simp [Sl.nil], fun g hgm => ?_, ?_⟩
      · obtain ⟨i, hi, e1, e2, e3, e4⟩ := gon_of hq hgm
        refine ⟨?_, by omega, by omega, fun e => by rw [e] at e4; simp at e4, ?_⟩
        · unfold fitRef
          omega
        · rw [e3]
          exact clipS_one hT _ _
      · have : 0 < G.length := List.length_pos_iff.2 h0
        simp only [Sl.nil]
        omega
    have hnd : (G.map GonR.ref).Nodup := by
      have h1 := eraL_nodup (X.map HsR.mx) T E ms E.length
      rw [← hq, List.map_map] at h1
      have h2 : G.map ((fun q : Int × Int × List Spn => q.1.toNat) ∘ GonR.q) = (G.map GonR.ref).map Int.toNat := by rw [List.map_map]; rfl
      rw [h2] at h1
      exact List.Pairwise.of_map Int.toNat (fun a b hab e => hab (congrArg _ e)) h1
    refine (hed_apply_gone w hh hbase _ hr rfl rfl hf (fun g hgm => ?_) hnd hX hE).mono ?_
    · obtain ⟨i, hi, e1, e2, _⟩ := gon_of hq hgm
      omega
    · rintro e w' ⟨rfl, X', h1, h2, h3⟩
      exact ⟨⟨_, rfl⟩, X', h1, h2, h3⟩
/-! the series that are left, in their order -/
def leftL (ms : List Mt) (sp : Spn) (l : List (List Lbl × List Smp)) : List (List Lbl × List Smp) := (l.map (leftF ms sp)).filter fullP
theorem leftL_yes {ms : List Mt} {sp : Spn} {l : List (List Lbl × List Smp)} {k : Nat} {q : List Lbl × List Smp} (h : l[k]? = some q) (hf : 0 < (leftF ms sp q).2.length) : leftL ms sp (l.take (k + 1)) = leftL ms sp (l.take k) ++ [leftF ms sp q] := by
  unfold leftL
  rw [take_snoc? h, List.map_append, List.filter_append]
  congr 1
  exact List.filter_cons_of_pos (decide_eq_true hf)
theorem leftL_no {ms : List Mt} {sp : Spn} {l : List (List Lbl × List Smp)} {k : Nat} {q : List Lbl × List Smp} (h : l[k]? = some q) (hf : ¬ 0 < (leftF ms sp q).2.length) : leftL ms sp (l.take (k + 1)) = leftL ms sp (l.take k) := by
  unfold leftL
  rw [take_snoc? h, List.map_append, List.filter_append]
  have : List.filter fullP (List.map (leftF ms sp) [q]) = [] := List.filter_cons_of_neg (fun e => hf (of_decide_eq_true e))
  rw [this, List.append_nil]
theorem leftL_at {ms : List Mt} {sp : Spn} {l : List (List Lbl × List Smp)} {k : Nat} {q : List Lbl × List Smp} (h : l[k]? = some q) (hf : 0 < (leftF ms sp q).2.length) : (leftL ms sp l)[(leftL ms sp (l.take k)).length]? = some (leftF ms sp q) := by
  have e : leftL ms sp l = leftL ms sp (l.take (k + 1)) ++ leftL ms sp (l.drop (k + 1)) := by
    unfold leftL
    rw [← List.filter_append, ← List.map_append, List.take_append_drop]
  rw [e, leftL_yes h hf, List.append_assoc, List.getElem?_append_right (Nat.le_refl _), Nat.sub_self]
  rfl
/-- what is left of a series' samples, as far as they were looked at -/
def leftS (b : Bool) (sp : Spn) (l : List Smp) : List Smp := l.filter fun x => !(b && inSpn sp x.t)
theorem leftS_yes {b : Bool} {sp : Spn} {l : List Smp} {k : Nat} {x : Smp} (h : l[k]? = some x) (hf : (b && inSpn sp x.t) = false) : leftS b sp (l.take (k + 1)) = leftS b sp (l.take k) ++ [x] := by
  unfold leftS
  rw [take_snoc? h, List.filter_append]
  congr 1
  exact List.filter_cons_of_pos (by simp only [hf]; rfl)
theorem leftS_no {b : Bool} {sp : Spn} {l : List Smp} {k : Nat} {x : Smp} (h : l[k]? = some x) (hf : (b && inSpn sp x.t) = true) : leftS b sp (l.take (k + 1)) = leftS b sp (l.take k) := by
  unfold leftS
  rw [take_snoc? h, List.filter_append, List.filter_cons_of_neg (by simp only [hf]; decide), List.filter_nil, List.append_nil]
theorem rawL_len (E : List (List Lbl)) (S : List SerP) : (rawL E S).length ≤ E.length := by
  unfold rawL
  refine Nat.le_trans (List.length_filter_le _ _) ?_
  rw [List.length_map, List.length_zip]
  exact Nat.min_le_left _ _
theorem rawL_smp {E : List (List Lbl)} {S : List SerP} (h : RawI S) {q : List Lbl × List Smp} (hq : q ∈ rawL E S) : q.2.length ≤ 1048576 := by
  obtain ⟨p, hp, rfl⟩ := List.mem_map.1 (List.mem_filter.1 hq).1
  refine Nat.le_trans (List.length_filter_le _ _) (h.sm p.2 ?_).2
  exact (List.of_mem_zip hp).2
/-- one series of a row -/
theorem ser_one {w : World} {B g o n j : Nat} {L : List Ser} {x : Ser} (h : Row w B 3 (some ⟨g, o, none⟩) n (L.flatMap Ser.cells)) (hl : L.length = n) (hx : L[j]? = some x) : Row w B 3 (some ⟨g, o + j * 3, none⟩) 1 x.cells := by
  have hj := (List.getElem?_eq_some_iff.1 hx).1
  have hc := h.cut (i := j) (k := j + 1) (by omega) (by omega)
  have e : ((L.flatMap Ser.cells).drop (j * 3)).take ((j + 1 - j) * 3) = x.cells := by
    rw [← fm_drop (enc := Ser.cells) (k := 3) (fun _ => rfl), ← fm_take (enc := Ser.cells) (k := 3) (fun _ => rfl), List.drop_eq_getElem_cons hj, Nat.add_sub_cancel_left, List.take_succ_cons, List.take_zero, (List.getElem?_eq_some_iff.1 hx).2]
    simp
  rw [e, Nat.add_sub_cancel_left] at hc
  exact hc
/-- a row of the call's own, as a slice that lies -/
theorem own_sl {α : Type} {w : World} {base k : Nat} {e : TypeId} {s : Sl α} {f : α → List Value} (h : w.ownsRow base e k s.val s.n (s.l.flatMap f)) (hl : s.l.length = s.n) : s.At w w.heap.size k f := by
  obtain ⟨A, c, e, hc, hr⟩ := own_shape h
  simp only [Sl.val, Value.slice.injEq, true_and] at e
  obtain ⟨e1, e2⟩ := e
  subst e1 e2
  exact ⟨hc, hl, hr⟩
end Go.Proofs.YthncochjhbmceaaGreat

namespace Go.Proofs.YthncochjhbmceaaGreat
set_option maxRecDepth 100000
open Go.RowKit

theorem info_rsmp18 : (Tryz.prog.info? 155).map (fun i => (i.zero, i.size, i.bytes)) = some (some (.agg #[.int .i64 0, .int .u64 0]), 2, 16) := by kernel_rfl
set_option maxHeartbeats 1600000 in
theorem labelsRef18_any (A : Option Addr) (n cap : Nat) (l : List Lbl) (w : World) (hr : Row w w.heap.size 2 A n (lblCells l)) (hl : l.length = n) (hn : n * 32 ≤ 140737488351232) :
    Calls Tryz.prog 24 #[.slice A n cap] w fun e w' => ∃ v, e = .returned v ∧ w'.ownsRow w.heap.size 167 2 v n (lblCells l) ∧ Below w.heap.size w w' := by
  obtain ⟨i0, hi, hz0, hz1, hz2⟩ := info_parts info_rlbl
  go_enter Tryz.func24, Tryz.ntmps24
  go_wp2
  go_loopw [3, 8] (fun v i wr => ∃ k : Nat, k ≤ n ∧ i = .int .i64 k ∧ wr.ownsRow w.heap.size 167 2 v k (lblCells (l.take k)) ∧ Below w.heap.size w wr) (fun _ i _ => n - (intOf i).toNat)
  case atStart => exact ⟨0, Nat.zero_le _, rfl, World.ownsRow_nil _ _ _ _, Below.refl _ _⟩
  case round =>
    obtain ⟨k, hk, rfl, hown, hb⟩ := hrel
    by_cases hlt : k < n
    · obtain ⟨gs, o, rfl, hgs, hc⟩ := hr.at_ (by omega)
      have hkl : k < l.length := by omega
      have hs := lblCells_at l k hkl
      have c0 : wr.cell? ⟨gs, o + k * 2, none⟩ = some (.string l[k].name) := ((hb.cell (p := ⟨gs, o + k * 2, none⟩) hgs).trans (hc (k * 2) (by omega))).trans hs.1
      have c1 : wr.cell? ⟨gs, o + k * 2 + 1, none⟩ = some (.string l[k].value) := ((hb.cell (p := ⟨gs, o + k * 2 + 1, none⟩) hgs).trans (hc (k * 2 + 1) (by omega))).trans hs.2
      have hT := hidden (take_succ_snoc l k hkl)
      have hbs := hb.size
      clear hs hc hr hl
      have hfr := Row.fresh (wr.alloc (Obj.cells #[Value.string l[k].name, Value.string l[k].value] 70)) 167 2 1 [Value.string l[k].name, Value.string l[k].value] rfl
      rw [World.size_alloc] at hfr
      go_wp2_with (at_builtin; refine wpList_app _ rfl _ _ 83 rfl w.heap.size 167 i0 _ 2 32 Tryz.underlying83 hi hz0 hz1 hz2 rfl (by decide) _ _ _ rfl ((hown.alloc _).alloc _) _ _ _ _ _ rfl hfr (by simp [Value.oneCell']) (by unfold maxLen; omega) (by omega) (by simp; omega) ?_; intro v1 w1 hown1 hg1 hat1)
      go_roundw
      case rel =>
        refine ⟨k + 1, by omega, by go_num, ?_, ?_⟩
        · rw [hT.out, lblCells_snoc]; exact hown1
        · exact ((hb.alloc hbs _).alloc (by simp; omega) _).grown hg1 (by simp; omega) (fun j hj => (hown.lt j hj).1)
      case measure => simp [intOf]; omega
    · obtain rfl : k = n := by omega
      have hL := hidden hl
      clear hl
      go_wp2
      go_ret
      exact ⟨_, rfl, by rw [List.take_of_length_le (by rw [hL.out]; exact Nat.le_refl _)] at hown; exact hown, hb⟩

set_option maxHeartbeats 1600000 in
theorem samplesRef18_any (A : Option Addr) (n cap : Nat) (l : List Smp) (w : World) (hr : Row w w.heap.size 2 A n (smpCells l)) (hl : l.length = n) (hn : n * 16 ≤ 140737488351232) :
    Calls Tryz.prog 25 #[.slice A n cap] w fun e w' => ∃ v, e = .returned v ∧ w'.ownsRow w.heap.size 155 2 v n (smpCells l) ∧ Below w.heap.size w w' := by
  obtain ⟨i0, hi, hz0, hz1, hz2⟩ := info_parts info_rsmp18
  go_enter Tryz.func25, Tryz.ntmps25
  go_wp2
  go_loopw [3, 8] (fun v i wr => ∃ k : Nat, k ≤ n ∧ i = .int .i64 k ∧ wr.ownsRow w.heap.size 155 2 v k (smpCells (l.take k)) ∧ Below w.heap.size w wr) (fun _ i _ => n - (intOf i).toNat)
  case atStart => exact ⟨0, Nat.zero_le _, rfl, World.ownsRow_nil _ _ _ _, Below.refl _ _⟩
  case round =>
    obtain ⟨k, hk, rfl, hown, hb⟩ := hrel
    by_cases hlt : k < n
    · obtain ⟨gs, o, rfl, hgs, hc⟩ := hr.at_ (by omega)
      have hkl : k < l.length := by omega
      have hs := smpCells_at l k hkl
      have c0 : wr.cell? ⟨gs, o + k * 2, none⟩ = some (.int .i64 l[k].t) := ((hb.cell (p := ⟨gs, o + k * 2, none⟩) hgs).trans (hc (k * 2) (by omega))).trans hs.1
      have c1 : wr.cell? ⟨gs, o + k * 2 + 1, none⟩ = some (.int .u64 (l[k].v : Nat)) := ((hb.cell (p := ⟨gs, o + k * 2 + 1, none⟩) hgs).trans (hc (k * 2 + 1) (by omega))).trans hs.2
      have hT := hidden (take_succ_snoc l k hkl)
      have hbs := hb.size
      clear hs hc hr hl
      have hfr := Row.fresh (wr.alloc (Obj.cells #[Value.int .i64 l[k].t, Value.int .u64 (l[k].v : Nat)] 68)) 155 2 1 [Value.int .i64 l[k].t, Value.int .u64 (l[k].v : Nat)] rfl
      rw [World.size_alloc] at hfr
      go_wp2_with (at_builtin; refine wpList_app _ rfl _ _ 85 rfl w.heap.size 155 i0 _ 2 16 Tryz.underlying85 hi hz0 hz1 hz2 rfl (by decide) _ _ _ rfl ((hown.alloc _).alloc _) _ _ _ _ _ rfl hfr (by simp [Value.oneCell']) (by unfold maxLen; omega) (by omega) (by simp; omega) ?_; intro v1 w1 hown1 hg1 hat1)
      go_roundw
      case rel =>
        refine ⟨k + 1, by omega, by go_num, ?_, ?_⟩
        · rw [hT.out, smpCells_snoc]; exact hown1
        · exact ((hb.alloc hbs _).alloc (by simp; omega) _).grown hg1 (by simp; omega) (fun j hj => (hown.lt j hj).1)
      case measure => simp [intOf]; omega
    · obtain rfl : k = n := by omega
      have hL := hidden hl
      clear hl
      go_wp2
      go_ret
      exact ⟨_, rfl, by rw [List.take_of_length_le (by rw [hL.out]; exact Nat.le_refl _)] at hown; exact hown, hb⟩

end Go.Proofs.YthncochjhbmceaaGreat

namespace Go.Proofs.YthncochjhbmceaaGreat
set_option maxRecDepth 100000
open Go.RowKit

theorem cmpLs_self (l : List Lbl) : cmpLs l l = 0 := (tri_Ls.zero l l).2 rfl
set_option maxHeartbeats 6400000 in
/-- one series is alike itself -/
theorem alike_one (gA : Nat) (oA cA : Nat) (x : Ser) (gW cW : Nat) (lA : Option Addr) (lN lC : Nat) (sA : Option Addr) (sN sC : Nat) (w : World)
    (hx : Row w w.heap.size 3 (some ⟨gA, oA, none⟩) 1 x.cells) (hlab : x.lab.At w w.heap.size 2 Lbl.cells) (hsmp : x.smp.At w w.heap.size 2 Smp.cells) (hwin : x.win = Sl.nil) (hln : x.lab.n ≤ 1048576) (hsn : x.smp.n ≤ 1048576)
    (hW : Whole1 w gW 89 #[.slice lA lN lC, .slice sA sN sC, .slice none 0 0]) (hl : Row w w.heap.size 2 lA lN (lblCells x.lab.l)) (hlN : lN = x.lab.n) (hs : Row w w.heap.size 2 sA sN (smpCells x.smp.l)) (hsN : sN = x.smp.n) :
    Calls Tryz.prog 23 #[.slice (some ⟨gA, oA, none⟩) 1 cA, .slice (some ⟨gW, 0, none⟩) 1 cW] w fun e w' => e = .returned (.bool true) ∧ Below w.heap.size w w' := by
  obtain ⟨hb, hl1, hr0⟩ := hlab
  obtain ⟨hb2, hs1, hr1⟩ := hsmp
  obtain ⟨⟨xlA, xlN, xlC, xll⟩, ⟨xsA, xsN, xsC, xsl⟩, xw⟩ := x
  subst hwin
  obtain rfl := hlN
  obtain rfl := hsN
  obtain ⟨g0, o0, e0, hg0, hc⟩ := hx.at_ (by omega)
  obtain ⟨rfl, rfl⟩ : gA = g0 ∧ oA = o0 := by cases e0; exact ⟨rfl, rfl⟩
  have a0 : w.cell? ⟨gA, oA, none⟩ = some (.slice xlA lN xlC) := hc 0 (by decide)
  have a1 : w.cell? ⟨gA, oA + 1, none⟩ = some (.slice xsA sN xsC) := hc 1 (by decide)
  have a2 : w.cell? ⟨gA, oA + 2, none⟩ = some (.slice none 0 0) := hc 2 (by decide)
  simp only at hl1 hs1 hr0 hr1 hl hs hln hsn
  have hb1 : Below w.heap.size w (w.alloc (.cells #[.slice xlA lN xlC, .slice xsA sN xsC, .slice none 0 0] 73)) := (Below.refl _ _).alloc (Nat.le_refl _) _
  have hy := Whole1.new w 73 #[.slice xlA lN xlC, .slice xsA sN xsC, .slice none 0 0]
  obtain ⟨w1, hw1⟩ : ∃ w1, w.alloc (.cells #[.slice xlA lN xlC, .slice xsA sN xsC, .slice none 0 0] 73) = w1 := ⟨_, rfl⟩
  obtain ⟨Y, hY⟩ : ∃ Y, w.heap.size = Y := ⟨_, rfl⟩
  rw [hw1] at hb1 hy
  rw [hY] at hy
  have HB1 := hidden hb1
  have HY1 := hidden hy
  have HW1 := hidden (hW.below hb1 hW.lt)
  have HL1 := hidden ((hl.below hb1).more hb1.size)
  have HS1 := hidden ((hs.below hb1).more hb1.size)
  have HR0 := hidden ((hr0.below hb1).more hb1.size)
  have S1 := hidden (samplesRef18_any xsA sN xsC xsl w1 ((hr1.below hb1).more hb1.size) hs1 (by omega))
  have y1 := hy.cell 1
  have HWe := hidden hw1
  have HYe := hidden hY
  have HL := hidden hl1
  have HSL := hidden hs1
  clear hx hc hW hl hs hr0 hr1 hb1 hy e0 hg0 hw1 hY
  go_enter Tryz.func23, Tryz.ntmps23
  go_wp2_with fail
  refine wp_loop_rounds 2 ?_
  rw [rounds_succ]
  go_upto_region 6 with (fail)
  rw [HWe.out, HYe.out]
  clear a0 a1 a2
  go_wp2_with fail
  refine S1.out.mono ?_
  rintro e w2 ⟨v2, rfl, ho2, b2⟩
  obtain ⟨A2, c2, rfl, _, hr2⟩ := own_shape ho2
  have HR2 := hidden hr2
  have HB2 := hidden (HB1.out.trans (b2.mono HB1.out.size))
  have HY2 := hidden (HY1.out.below b2 HY1.out.lt)
  have HW2 := hidden (HW1.out.below b2 HW1.out.lt)
  have HL2 := hidden ((HL1.out.below b2).more b2.size)
  have HS2 := hidden ((HS1.out.below b2).more b2.size)
  have HR02 := hidden ((HR0.out.below b2).more b2.size)
  have HSx := hidden (fun W (hW : Below w2.heap.size w2 W) => (⟨(HY2.out.below hW HY2.out.lt).cell 0, (HY2.out.below hW HY2.out.lt).cell 2, (HW2.out.below hW HW2.out.lt).cell 0, (HW2.out.below hW HW2.out.lt).cell 1⟩ : W.cell? ⟨Y, 0, none⟩ = some (.slice xlA lN xlC) ∧ W.cell? ⟨Y, 2, none⟩ = some (.slice none 0 0) ∧ W.cell? ⟨gW, 0, none⟩ = some (.slice lA lN lC) ∧ W.cell? ⟨gW, 1, none⟩ = some (.slice sA sN sC)))
  have SL := hidden (fun W (hW : Below w2.heap.size w2 W) => labelsRef18_any xlA lN xlC xll W ((HR02.out.below hW).more hW.size) HL.out (by omega))
  have hcz : cmpLs xll xll = 0 := cmpLs_self xll
  have HCZ := hidden hcz
  have hnn : ((sN : Int) != (sN : Int)) = false := by simp
  clear S1 ho2 b2 hr2 y1 HY1 HW1 HL1 HS1 HR0 hcz
  go_upto_region 7 with (fail)
  go_cut [50] (fun vb wx => vb = .bool false ∧ Hid (Below w2.heap.size w2 wx))
  case first =>
    go_region_held3 (fun W => W.cell? ⟨Y, 0, none⟩ = some (.slice xlA lN xlC) ∧ W.cell? ⟨Y, 2, none⟩ = some (.slice none 0 0) ∧ W.cell? ⟨gW, 0, none⟩ = some (.slice lA lN lC) ∧ W.cell? ⟨gW, 1, none⟩ = some (.slice sA sN sC))
      (first | exact HSx.out _ (Below.refl _ _) | exact HSx.out _ (Below.refl _ _).drew | exact HSx.out _ (by assumption))
      (first
        | (go_at_call 54; refine (rcompare_any _ _ _ _ _ _ xll xll _ _ _ HRa.out (HLb.out) HL.out HL.out (by omega)).mono ?_; rintro e w' ⟨rfl, q, rfl⟩; rw [HCZ.out]; have ky := below_drewN kx q; have HKY := hidden ky)
        | (go_at_call 24; refine (SL.out _ (Below.refl _ _).drew).mono ?_; rintro e w' ⟨v3, rfl, h1, c5⟩; obtain ⟨A3, c3, rfl, _, h2⟩ := own_shape h1; have HRa := hidden h2; have kx : Below w2.heap.size w2 w' := (Below.refl _ _).drew.trans c5; have HLb := hidden ((HL2.out.below kx).more kx.size); clear c5 h1 h2))
    all_goals
      go_wp2_with fail
      go_meet
      exact ⟨rfl, HKY⟩
  case rest =>
    obtain ⟨rfl, HB3⟩ := hcut
    have HR3 := hidden ((HR2.out.below HB3.out).more HB3.out.size)
    have HS3 := hidden ((HS2.out.below HB3.out).more HB3.out.size)
    have HW3 := hidden (HW2.out.below HB3.out HW2.out.lt)
    clear HSx SL HR2 HS2 HW2 HR02 HL2 HY2
    go_wp2_with fail
    go_loopw [53] (fun vi wr => ∃ (k q : Nat), vi = .int .i64 (k : Int) ∧ k ≤ sN ∧ wr = wc.drewN q) (fun vi _ => sN - (intOf vi).toNat)
    case atStart => exact ⟨0, 0, rfl, Nat.zero_le _, rfl⟩
    case round =>
      obtain ⟨k, q, rfl, hk, rfl⟩ := hrel
      have k0 : (0 : Int) ≤ (k : Int) := by omega
      by_cases hlt : k < sN
      · have k1 : (k : Int) < (sN : Int) := by omega
        have fwk : IntKind.i64.wrap ((k : Int) + 1) = (k : Int) + 1 := Go.IntWalk.i64_in _ (by omega)
        obtain ⟨ga, oa, ea, _, hca⟩ := HR3.out.at_ (by omega)
        obtain ⟨gb, ob, eb, _, hcb⟩ := HS3.out.at_ (by omega)
        have hkl : k < xsl.length := by rw [HSL.out]; exact hlt
        have hat := smpCells_at xsl k hkl
        have a0 : wc.cell? ⟨ga, oa + k * 2, none⟩ = some (.int .i64 xsl[k].t) := (hca _ (by omega)).trans hat.1
        have a1 : wc.cell? ⟨ga, oa + k * 2 + 1, none⟩ = some (.int .u64 (xsl[k].v : Nat)) := (hca (k * 2 + 1) (by omega)).trans hat.2
        have b0 : wc.cell? ⟨gb, ob + k * 2, none⟩ = some (.int .i64 xsl[k].t) := (hcb _ (by omega)).trans hat.1
        have b1 : wc.cell? ⟨gb, ob + k * 2 + 1, none⟩ = some (.int .u64 (xsl[k].v : Nat)) := (hcb (k * 2 + 1) (by omega)).trans hat.2
        subst ea
        subst eb
        generalize xsl[k].t = xt at a0 b0
        generalize xsl[k].v = xv at a1 b1
        have g1 := HW3.out.cell 1
        clear hca hcb hat hkl
        have hxv : ((xv : Int) == (xv : Int)) = true := by simp
        have hxt : (xt == xt) = true := by simp
        go_wp2_with fail
        go_quiet (fail)
        go_wp2_with fail
        refine ⟨⟨k + 1, q + nq, by simp, hlt, rfl⟩, ?_⟩
        simp only [intOf]; omega
      · obtain rfl : sN = k := by omega
        have HF := hidden (below_drewN (HB2.out.trans (HB3.out.mono HB2.out.size)) q)
        go_wp2_with fail
        rw [rounds_succ]
        go_wp2_with fail
        go_ret
        exact ⟨rfl, HF.out⟩
end Go.Proofs.YthncochjhbmceaaGreat
