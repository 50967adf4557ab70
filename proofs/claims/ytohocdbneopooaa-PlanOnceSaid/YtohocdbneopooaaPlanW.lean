/- plan.ids, chains: what they return. Condition: the row is within the reach. -/
import Derived.Test.YtohocdbneopooaaPlanDel
namespace Go.Proofs.Ytohocdbneopooaa
set_option maxRecDepth 100000
open Go.Shelf Go.RowKit Go.Lib Go.Sort

def intc (z : Int) : List Value := [.int .i64 z]
def intCells (l : List Int) : List Value := l.flatMap intc
theorem intCells_snoc (l : List Int) (z : Int) : intCells (l ++ [z]) = intCells l ++ [.int .i64 z] := by simp [intCells, intc]
theorem info_int : (Try.prog.info? 3).map (fun i => (i.zero, i.size, i.bytes)) = some (some (.int .i64 0), 1, 8) := by kernel_rfl
theorem info_ints : (Try.prog.info? 78).map (fun i => (i.zero, i.size, i.bytes)) = some (some (.slice none 0 0), 1, 24) := by kernel_rfl

set_option maxHeartbeats 1600000 in
theorem ids_any (A : Option Addr) (n c : Nat) (l : List Inf) (w : World) (hr : Row w w.heap.size 5 A n (infCells l)) (hl : l.length = n) (hn : n * 40 ≤ 140737488351232) :
    Calls Try.prog 126 #[.slice A n c] w fun e w' => ∃ v, e = .returned v ∧ w'.ownsRow w.heap.size 3 1 v n (intCells (l.map Inf.id)) ∧ Below w.heap.size w w' := by
  obtain ⟨i0, hi, hz0, hz1, hz2⟩ := info_parts info_int
  have hL := hidden hl
  have HR := hidden hr
  clear hl hr
  go_enter Try.func126, Try.ntmps126
  go_wp2
  go_loopw [3, 8] (fun v i wr => ∃ k : Nat, k ≤ n ∧ i = .int .i64 k ∧ wr.ownsRow w.heap.size 3 1 v k (intCells ((l.take k).map Inf.id)) ∧ Below w.heap.size w wr) (fun _ i _ => n - (intOf i).toNat)
  case atStart => exact ⟨0, Nat.zero_le _, rfl, World.ownsRow_nil _ _ _ _, Below.refl _ _⟩
  case round =>
    obtain ⟨k, hk, rfl, hown, hb⟩ := hrel
    by_cases hlt : k < n
    · obtain ⟨gs, o, rfl, _, x, hx, d0, d1, d2, d3, d4⟩ := inf_cells_at HR.out hL.out hb k hlt
      have hT := hidden (take_snoc? hx)
      obtain ⟨x0, x1, x2, x3, x4⟩ := x
      simp only at d0 d1 d2 d3 d4
      have hbs := hb.size
      clear hx
      have hfr := Row.fresh (wr.alloc (Obj.cells #[.int .i64 x0, .int .i64 x1, .int .i64 x2, .int .i64 x3, .int .i64 x4] 71)) 3 1 1 [.int .i64 x0] rfl
      rw [World.size_alloc] at hfr
      go_wp2_with (at_builtin; refine wpList_app _ rfl _ _ 78 rfl w.heap.size 3 i0 _ 1 8 Try.underlying78 hi hz0 hz1 hz2 rfl (by decide) _ _ _ rfl ((hown.alloc _).alloc _) _ _ _ _ _ rfl hfr (by simp [Value.oneCell']) (by unfold maxLen; omega) (by omega) (by simp; omega) ?_; intro v1 w1 hown1 hg1 hat1)
      go_roundw
      case rel =>
        refine ⟨k + 1, by omega, by go_num, ?_, ((hb.alloc hbs _).alloc (by simp; omega) _).grown hg1 (by simp; omega) (fun q hq => (hown.lt q hq).1)⟩
        rw [hT.out, List.map_append, List.map_cons, List.map_nil, intCells_snoc]; exact hown1
      case measure => simp [intOf]; omega
    · obtain rfl : n = k := by omega
      rw [List.take_of_length_le (by rw [hL.out]; exact Nat.le_refl _)] at hown
      go_wp2
      go_ret
      exact ⟨_, rfl, hown, hb⟩

/-- a list of lists of the call's own -/
def LLAt (w : World) (base : Nat) (v : Value) (G : List (List Int)) (S : List (Sl Int)) : Prop :=
  w.ownsRow base 78 1 v G.length (S.map Sl.val) ∧ S.map Sl.l = G ∧ (∀ s ∈ S, s.At w w.heap.size 1 intc) ∧ (∀ s ∈ S, s.Off v.ownBlock) ∧ ∀ s ∈ S, ∀ j, j < base → s.Off (some j)
theorem LLAt.start (w : World) (base : Nat) : LLAt w base (.slice none 0 0) [] [] := ⟨World.ownsRow_nil _ _ _ _, rfl, by simp, by simp, by simp⟩
theorem LLAt.below {w w' : World} {base : Nat} {v : Value} {G : List (List Int)} {S : List (Sl Int)} (h : LLAt w base v G S) (hb : RowKit.Below w.heap.size w w') : LLAt w' base v G S :=
  ⟨own_below h.1 hb (Nat.le_refl _), h.2.1, fun s hs => ((h.2.2.1 s hs).below hb).more hb.size, h.2.2.2⟩

theorem Sl.At.alloc {α : Type} {w : World} {B size : Nat} {f : α → List Value} {s : Sl α} (h : s.At w B size f) (hB : B ≤ w.heap.size) (c : Obj) : s.At (w.alloc c) B size f := h.grown (gb_alloc (gb_refl w none) c) s.off_none hB

/-- lists, appended -/
theorem ll_more {W2 w9 : World} {base : Nat} {vo v9 : Value} {G G' : List (List Int)} {S S' : List (Sl Int)} (hA : LLAt W2 base vo G S) (hs : S'.map Sl.l = G') (hy : ∀ s ∈ S', s.At W2 W2.heap.size 1 intc) (hyo : ∀ s ∈ S', s.Off vo.ownBlock) (hyb : ∀ s ∈ S', ∀ j, j < base → s.Off (some j))
    (hg9 : W2.grownBy w9 vo.ownBlock) (hat9 : v9.ownBlock = vo.ownBlock ∨ ∃ q, v9.ownBlock = some q ∧ W2.heap.size ≤ q) (ho : w9.ownsRow base 78 1 v9 (G.length + G'.length) (S.map Sl.val ++ S'.map Sl.val)) :
    LLAt w9 base v9 (G ++ G') (S ++ S') := by
  obtain ⟨h1, h2, h3, h4, h5⟩ := hA
  have hall : ∀ z ∈ S ++ S', z.At W2 W2.heap.size 1 intc ∧ z.Off vo.ownBlock := by
    intro z hz
    rcases List.mem_append.1 hz with h | h
    · exact ⟨h3 z h, h4 z h⟩
    · exact ⟨hy z h, hyo z h⟩
  have hs9 := hg9.size
  refine ⟨by rw [List.length_append, List.map_append]; exact ho, by rw [List.map_append, h2, hs], fun z hz => ?_, fun z hz => ?_, fun z hz => ?_⟩
  · obtain ⟨a, b⟩ := hall z hz
    exact (a.grown hg9 b (Nat.le_refl _)).more hs9
  · obtain ⟨a, b⟩ := hall z hz
    rcases hat9 with h | ⟨q, h, hq⟩
    · rw [h]; exact b
    · rw [h]; exact a.off hq
  · rcases List.mem_append.1 hz with h | h
    · exact h5 z h
    · exact hyb z h

/-! chains, plainly -/
def spanGo (e : Int) : List Inf → Nat
  | [] => 0
  | y :: r => if y.frm < e then 1 + spanGo (max e y.til) r else 0
theorem spanGo_le (e : Int) : ∀ l : List Inf, spanGo e l ≤ l.length
  | [] => Nat.le_refl _
  | y :: r => by
    rw [spanGo]
    split
    · have := spanGo_le (max e y.til) r; simp; omega
    · simp
def chainsF : Nat → List Inf → List (List Int)
  | 0, _ => []
  | _ + 1, [] => []
  | f + 1, x :: r => (if 1 < 1 + spanGo x.til r then [((x :: r).take (1 + spanGo x.til r)).map Inf.id] else []) ++ chainsF f ((x :: r).drop (1 + spanGo x.til r))
theorem chainsF_more : ∀ (f f' : Nat) (l : List Inf), l.length ≤ f → l.length ≤ f' → chainsF f l = chainsF f' l
  | 0, 0, _, _, _ => rfl
  | 0, f' + 1, l, h, _ => by
    have : l = [] := List.eq_nil_of_length_eq_zero (by omega)
    subst this; rfl
  | f + 1, 0, l, _, h => by
    have : l = [] := List.eq_nil_of_length_eq_zero (by omega)
    subst this; rfl
  | f + 1, f' + 1, [], _, _ => rfl
  | f + 1, f' + 1, x :: r, h, h' => by
    rw [chainsF, chainsF, chainsF_more f f' _ (by simp at h ⊢; try omega) (by simp at h' ⊢; try omega)]
def chainsI (l : List Inf) : List (List Int) := chainsF l.length l
theorem chainsI_cons (x : Inf) (r : List Inf) : chainsI (x :: r) = (if 1 < 1 + spanGo x.til r then [((x :: r).take (1 + spanGo x.til r)).map Inf.id] else []) ++ chainsI ((x :: r).drop (1 + spanGo x.til r)) := by
  unfold chainsI
  rw [List.length_cons, chainsF, chainsF_more r.length _ _ (by simp) (Nat.le_refl _)]

theorem drop_cons? {α : Type} {l : List α} {k : Nat} {x : α} (h : l[k]? = some x) : l.drop k = x :: l.drop (k + 1) := by
  obtain ⟨h1, h2⟩ := List.getElem?_eq_some_iff.1 h
  rw [List.drop_eq_getElem_cons h1, h2]

theorem infCells_take (l : List Inf) : ∀ k, infCells (l.take k) = (infCells l).take (k * 5) := by
  induction l with
  | nil => intro k; simp [infCells]
  | cons a l ih =>
    intro k
    cases k with
    | zero => simp [infCells]
    | succ k =>
      rw [List.take_succ_cons, infCells_cons, infCells_cons, ih, show (k + 1) * 5 = k * 5 + 1 + 1 + 1 + 1 + 1 from by omega]
      simp
theorem infCells_drop (l : List Inf) : ∀ k, infCells (l.drop k) = (infCells l).drop (k * 5) := by
  induction l with
  | nil => intro k; simp [infCells]
  | cons a l ih =>
    intro k
    cases k with
    | zero => simp
    | succ k =>
      rw [List.drop_succ_cons, infCells_cons, ih, show (k + 1) * 5 = k * 5 + 1 + 1 + 1 + 1 + 1 from by omega]
      simp
theorem row_take {w : World} {B : Nat} {A : Option Addr} {n k : Nat} {l : List Inf} (h : Row w B 5 A n (infCells l)) (hk : k ≤ n) : Row w B 5 A k (infCells (l.take k)) := by
  have hlen := h.len
  refine ⟨by rw [infCells_take, List.length_take]; omega, fun hp => ?_⟩
  obtain ⟨g, o, e, hb, hc⟩ := h.at_ (by omega)
  exact ⟨g, o, e, hb, fun j hj => by rw [hc j (by omega), infCells_take, List.getElem?_take, if_pos hj]⟩
theorem row_drop {w : World} {B : Nat} {g o n k : Nat} {l : List Inf} (h : Row w B 5 (some ⟨g, o, none⟩) n (infCells l)) (hk : k ≤ n) : Row w B 5 (some ⟨g, o + k * 5, none⟩) (n - k) (infCells (l.drop k)) := by
  have hlen := h.len
  refine ⟨by rw [infCells_drop, List.length_drop]; omega, fun hp => ?_⟩
  obtain ⟨g', o', e, hb, hc⟩ := h.at_ (by omega)
  injection e with e
  injection e with e1 e2
  subst e1 e2
  exact ⟨g, o + k * 5, rfl, hb, fun j hj => by rw [Nat.add_assoc, hc _ (by omega), infCells_drop, List.getElem?_drop]⟩
theorem row_zero {w : World} {B k : Nat} {A : Option Addr} {l : List Inf} (hk : k = 0) (hl : l = []) : Row w B 5 A k (infCells l) := by
  subst hk hl
  exact ⟨rfl, fun h => absurd h (by omega)⟩
theorem spanGo_step {e : Int} {y : Inf} {r : List Inf} (h : y.frm < e) : spanGo e (y :: r) = 1 + spanGo (max e y.til) r := by rw [spanGo, if_pos h]
theorem spanGo_stop {e : Int} {y : Inf} {r : List Inf} (h : ¬ y.frm < e) : spanGo e (y :: r) = 0 := by rw [spanGo, if_neg h]

set_option maxHeartbeats 6400000 in
theorem chains_any (A : Option Addr) (n c : Nat) (l : List Inf) (w : World) (hr : Row w w.heap.size 5 A n (infCells l)) (hl : l.length = n) (hnc : n ≤ c) (hc : c ≤ 9223372036854775807) (hn : n * 40 ≤ 140737488351232) :
    Calls Try.prog 87 #[.slice A n c] w fun e w' => ∃ v S, e = .returned v ∧ LLAt w' w.heap.size v (chainsI l) S ∧ RowKit.Below w.heap.size w w' := by
  obtain ⟨i0, hi, hz0, hz1, hz2⟩ := info_parts info_ints
  have hL := hidden hl
  have HR := hidden hr
  clear hl hr
  go_enter Try.func87, Try.ntmps87
  go_wp2
  go_loopw [0, 3] (fun v0 v wr => ∃ (p : Nat) (A' : Option Addr) (m c' : Nat) (G : List (List Int)) (S : List (Sl Int)) (vo : Value), vo = v ∧ v0 = .slice A' m c' ∧ p + m = n ∧ m ≤ c' ∧ c' ≤ c ∧ Hid (Row w w.heap.size 5 A' m (infCells (l.drop p))) ∧ Hid (LLAt wr w.heap.size v G S) ∧ Hid (G ++ chainsI (l.drop p) = chainsI l) ∧ G.length ≤ p ∧ RowKit.Below w.heap.size w wr) (fun v0 _ _ => match v0 with | .slice _ m _ => m | _ => 0)
  case atStart => exact ⟨0, A, n, c, [], [], _, rfl, rfl, by omega, hnc, Nat.le_refl _, HR, hidden (LLAt.start _ _), hidden rfl, Nat.zero_le _, RowKit.Below.refl _ _⟩
  case round =>
    obtain ⟨p, A', m, c', G, S, vo, rfl, rfl, hpm, hmc, hcc, hrow, hLL, hG, hGp, hb⟩ := hrel
    by_cases hlt : 0 < m
    · obtain ⟨wo, rfl⟩ : ∃ wo : World, wo = wr := ⟨_, rfl⟩
      have hdl : (l.drop p).length = m := by rw [List.length_drop, hL.out]; omega
      have hdl' := hidden hdl
      obtain ⟨gs, o, rfl, hgs, x, hx, d0, d1, d2, d3, d4⟩ := inf_cells_at hrow.out hdl hb 0 hlt
      obtain ⟨r, hr⟩ : ∃ r, l.drop p = x :: r := ⟨_, by simpa using drop_cons? hx⟩
      have HRR := hidden hr
      obtain ⟨x0, x1, x2, x3, x4⟩ := x
      simp only at d0 d1 d2 d3 d4
      simp only [Nat.zero_mul, Nat.add_zero] at d0 d1 d2 d3 d4
      have hltz : (0 : Int) < (m : Int) := by omega
      obtain ⟨K, hK⟩ : ∃ K, 1 + spanGo x3 r = K := ⟨_, rfl⟩
      have hrl : r.length + 1 = m := by have := congrArg List.length hr; simpa [hdl'.out] using this.symm
      have hKm : K ≤ m := by have := spanGo_le x3 r; omega
      have HK := hidden hK
      have hgsw : gs < w.heap.size := hgs
      clear hx hdl hr hK hgs
      go_upto_region 3 with (fail)
      go_quiet (fail)
      obtain ⟨wq, hwq⟩ : ∃ wq, wo.drewN nq = wq := ⟨_, rfl⟩
      have hbq : RowKit.Below w.heap.size w wq := by rw [← hwq]; exact below_drewN hb nq
      have hLLq := hidden (show LLAt wq w.heap.size vo G S by rw [← hwq]; exact hLL.out.below (below_drewN (RowKit.Below.refl _ _) nq))
      rw [hwq]
      clear hwq d0 d1 d2 d3 d4
      go_wp2_with fail
      go_loop [4, 5] (fun v4 v5 => ∃ (k : Nat) (e : Int), v4 = .int .i64 k ∧ v5 = .int .i64 e ∧ 1 ≤ k ∧ k ≤ m ∧ Hid (k + spanGo e ((l.drop p).drop k) = K)) (fun v4 _ => m - (intOf v4).toNat)
      case atStart => exact ⟨1, x3, rfl, rfl, Nat.le_refl _, hlt, hidden (by rw [HRR.out]; exact HK.out)⟩
      case round =>
        obtain ⟨k, e, rfl, rfl, hk1, hkm, hsp⟩ := hrel
        have hway : (k < m ∧ ∃ y, (l.drop p)[k]? = some y ∧ y.frm < e) ∨ k = K := by
          by_cases hk : k < m
          · obtain ⟨y, hy⟩ : ∃ y, (l.drop p)[k]? = some y := ⟨_, List.getElem?_eq_getElem (by rw [hdl'.out]; exact hk)⟩
            by_cases hf : y.frm < e
            · exact .inl ⟨hk, y, hy, hf⟩
            · right
              have := hsp.out
              rw [drop_cons? hy, spanGo_stop hf] at this
              omega
          · right
            have := hsp.out
            rw [List.drop_eq_nil_of_le (by rw [hdl'.out]; omega), spanGo] at this
            omega
        rcases hway with ⟨hkm2, y, hy, hf⟩ | hkK
        · obtain ⟨gs', o', hA', _, z, hz, d0, d1, d2, d3, d4⟩ := inf_cells_at hrow.out hdl'.out hbq k hkm2
          injection hA' with hA'
          injection hA' with hA1 hA2
          subst hA1 hA2
          have hyz := hy.symm.trans hz
          injection hyz with hyz
          subst hyz
          have hs2 := hsp.out
          rw [drop_cons? hy, spanGo_step hf] at hs2
          have HS2 := hidden hs2
          obtain ⟨y0, y1, y2, y3, y4⟩ := y
          simp only at d0 d1 d2 d3 d4 hf HS2
          have hkz : (k : Int) < (m : Int) := by omega
          clear hs2 hy hz hsp
          go_wp2_with fail
          go_round
          case rel => exact ⟨k + 1, max e y3, by go_num, rfl, by omega, by omega, hidden (by have := HS2.out; omega)⟩
          case measure => simp [intOf]; omega
        · have HKK := HK
          rw [← hkK] at HKK
          obtain rfl : K = k := hkK.symm
          by_cases hk2 : K < m
          · obtain ⟨gs', o', hA', _, y, hy, d0, d1, d2, d3, d4⟩ := inf_cells_at hrow.out hdl'.out hbq K hk2
            injection hA' with hA'
            injection hA' with hA1 hA2
            subst hA1 hA2
            have hf : ¬ y.frm < e := by
              intro h
              have := hsp.out
              rw [drop_cons? hy, spanGo_step h] at this
              omega
            have hkz : (K : Int) < (m : Int) := by omega
            clear hsp hy
            have HKm := hkm
            have hG1 := hG.out
            rw [HRR.out, chainsI_cons, HKK.out] at hG1
            rw [← HRR.out, List.drop_drop] at hG1
            have hrk := row_take hrow.out hkm
            by_cases h1 : 1 < K
            · have h1z : (1 : Int) < (K : Int) := by omega
              rw [if_pos h1] at hG1
              have HG1 := hidden hG1
              clear hG1
              go_wp2_with fail
              refine (ids_any (some ⟨gs, o, none⟩) K c' ((l.drop p).take K) wq ((hrk.below hbq).more hbq.size) (by rw [List.length_take, hdl'.out]; omega) (by omega)).mono ?_
              rintro e2 w5 ⟨v5, rfl, ho5, hb5⟩
              obtain ⟨A5, c5, rfl, hc5, hr5⟩ := own_shape ho5
              have hB5 := hbq.trans (hb5.mono hbq.size)
              have hL5 := hLLq.out.below hb5
              have hfr := Row.fresh w5 78 1 1 [.slice A5 K c5] rfl
              have HO5 := hidden ho5
              clear ho5
              go_wp2_with (at_builtin; refine wpList_app _ rfl _ _ 68 rfl w.heap.size 78 i0 _ 1 24 Try.underlying68 hi hz0 hz1 hz2 rfl (by decide) _ _ _ rfl (hL5.1.alloc _) _ _ _ _ _ rfl hfr (by simp [Value.oneCell']) (by unfold maxLen; omega) (by omega) (by have := hB5.size; simp; omega) ?_; intro v9 w9 hown9 hg9 hat9)
              go_roundw
              case rel =>
                have hS : (Sl.mk A5 K c5 (((l.drop p).take K).map Inf.id)).At w5 w5.heap.size 1 intc := ⟨hc5, by simp only [List.length_map, List.length_take, hdl'.out]; omega, hr5⟩
                have hm := ll_more (S' := [Sl.mk A5 K c5 (((l.drop p).take K).map Inf.id)]) (hL5.below ((RowKit.Below.refl _ _).alloc (Nat.le_refl _) _)) rfl (fun s hs => by rw [List.mem_singleton.1 hs]; exact (hS.alloc (Nat.le_refl _) _).more (by simp)) (fun s hs => by
                  rw [List.mem_singleton.1 hs]
                  cases hvb : vo.ownBlock with
                  | none => exact Sl.off_none _
                  | some q => exact Sl.off_own HO5.out (hLLq.out.1.lt q hvb).2) (fun s hs j hj => by rw [List.mem_singleton.1 hs]; exact Sl.off_own HO5.out (by have := hbq.size; omega)) hg9 (hat9.imp id fun h => ⟨_, h, Nat.le_refl _⟩) hown9
                exact ⟨p + K, _, m - K, _, _, _, v9, rfl, rfl, by omega, by omega, by omega, hidden (by have := row_drop hrow.out hkm; rw [List.drop_drop] at this; exact this), hidden hm, hidden (by rw [List.append_assoc]; exact HG1.out), by simp; omega, (hB5.alloc hB5.size _).grown hg9 (by have := hB5.size; simp; omega) (fun q hq => (hL5.1.lt q hq).1)⟩
              case measure => simp; omega
            · have h1z : ¬ (1 : Int) < (K : Int) := by omega
              rw [if_neg h1, List.nil_append] at hG1
              have HG1 := hidden hG1
              clear hG1
              go_wp2_with fail
              go_roundw
              case rel => exact ⟨p + K, _, m - K, _, _, _, vo, rfl, rfl, by omega, by omega, by omega, hidden (by have := row_drop hrow.out hkm; rw [List.drop_drop] at this; exact this), hLLq, HG1, by omega, hbq⟩
              case measure => simp; omega
          · have hkz : ¬ (K : Int) < (m : Int) := by omega
            clear hsp
            by_cases hcap : K = c'
            · subst hcap
              have HKm := hkm
              have hG1 := hG.out
              rw [HRR.out, chainsI_cons, HKK.out] at hG1
              rw [← HRR.out, List.drop_drop] at hG1
              have hrk := row_take hrow.out hkm
              by_cases h1 : 1 < K
              · have h1z : (1 : Int) < (K : Int) := by omega
                rw [if_pos h1] at hG1
                have HG1 := hidden hG1
                clear hG1
                go_wp2_with fail
                refine (ids_any (some ⟨gs, o, none⟩) K K ((l.drop p).take K) wq ((hrk.below hbq).more hbq.size) (by rw [List.length_take, hdl'.out]; omega) (by omega)).mono ?_
                rintro e2 w5 ⟨v5, rfl, ho5, hb5⟩
                obtain ⟨A5, c5, rfl, hc5, hr5⟩ := own_shape ho5
                have hB5 := hbq.trans (hb5.mono hbq.size)
                have hL5 := hLLq.out.below hb5
                have hfr := Row.fresh w5 78 1 1 [.slice A5 K c5] rfl
                have HO5 := hidden ho5
                clear ho5
                go_wp2_with (at_builtin; refine wpList_app _ rfl _ _ 68 rfl w.heap.size 78 i0 _ 1 24 Try.underlying68 hi hz0 hz1 hz2 rfl (by decide) _ _ _ rfl (hL5.1.alloc _) _ _ _ _ _ rfl hfr (by simp [Value.oneCell']) (by unfold maxLen; omega) (by omega) (by have := hB5.size; simp; omega) ?_; intro v9 w9 hown9 hg9 hat9)
                go_roundw
                case rel =>
                  have hS : (Sl.mk A5 K c5 (((l.drop p).take K).map Inf.id)).At w5 w5.heap.size 1 intc := ⟨hc5, by simp only [List.length_map, List.length_take, hdl'.out]; omega, hr5⟩
                  have hm := ll_more (S' := [Sl.mk A5 K c5 (((l.drop p).take K).map Inf.id)]) (hL5.below ((RowKit.Below.refl _ _).alloc (Nat.le_refl _) _)) rfl (fun s hs => by rw [List.mem_singleton.1 hs]; exact (hS.alloc (Nat.le_refl _) _).more (by simp)) (fun s hs => by
                    rw [List.mem_singleton.1 hs]
                    cases hvb : vo.ownBlock with
                    | none => exact Sl.off_none _
                    | some q => exact Sl.off_own HO5.out (hLLq.out.1.lt q hvb).2) (fun s hs j hj => by rw [List.mem_singleton.1 hs]; exact Sl.off_own HO5.out (by have := hbq.size; omega)) hg9 (hat9.imp id fun h => ⟨_, h, Nat.le_refl _⟩) hown9
                  exact ⟨p + K, _, 0, 0, _, _, v9, rfl, rfl, by omega, by omega, by omega, hidden (row_zero (by omega) (List.drop_eq_nil_of_le (by rw [hL.out]; omega))), hidden hm, hidden (by rw [List.append_assoc]; exact HG1.out), by simp; omega, (hB5.alloc hB5.size _).grown hg9 (by have := hB5.size; simp; omega) (fun q hq => (hL5.1.lt q hq).1)⟩
                case measure => simp; omega
              · have h1z : ¬ (1 : Int) < (K : Int) := by omega
                rw [if_neg h1, List.nil_append] at hG1
                have HG1 := hidden hG1
                clear hG1
                go_wp2_with fail
                go_roundw
                case rel => exact ⟨p + K, _, 0, 0, _, _, vo, rfl, rfl, by omega, by omega, by omega, hidden (row_zero (by omega) (List.drop_eq_nil_of_le (by rw [hL.out]; omega))), hLLq, HG1, by omega, hbq⟩
                case measure => simp; omega
            · have hcz : K < c' := by omega
              have HKm := hkm
              have hG1 := hG.out
              rw [HRR.out, chainsI_cons, HKK.out] at hG1
              rw [← HRR.out, List.drop_drop] at hG1
              have hrk := row_take hrow.out hkm
              by_cases h1 : 1 < K
              · have h1z : (1 : Int) < (K : Int) := by omega
                rw [if_pos h1] at hG1
                have HG1 := hidden hG1
                clear hG1
                go_wp2_with fail
                refine (ids_any (some ⟨gs, o, none⟩) K c' ((l.drop p).take K) wq ((hrk.below hbq).more hbq.size) (by rw [List.length_take, hdl'.out]; omega) (by omega)).mono ?_
                rintro e2 w5 ⟨v5, rfl, ho5, hb5⟩
                obtain ⟨A5, c5, rfl, hc5, hr5⟩ := own_shape ho5
                have hB5 := hbq.trans (hb5.mono hbq.size)
                have hL5 := hLLq.out.below hb5
                have hfr := Row.fresh w5 78 1 1 [.slice A5 K c5] rfl
                have HO5 := hidden ho5
                clear ho5
                go_wp2_with (at_builtin; refine wpList_app _ rfl _ _ 68 rfl w.heap.size 78 i0 _ 1 24 Try.underlying68 hi hz0 hz1 hz2 rfl (by decide) _ _ _ rfl (hL5.1.alloc _) _ _ _ _ _ rfl hfr (by simp [Value.oneCell']) (by unfold maxLen; omega) (by omega) (by have := hB5.size; simp; omega) ?_; intro v9 w9 hown9 hg9 hat9)
                go_roundw
                case rel =>
                  have hS : (Sl.mk A5 K c5 (((l.drop p).take K).map Inf.id)).At w5 w5.heap.size 1 intc := ⟨hc5, by simp only [List.length_map, List.length_take, hdl'.out]; omega, hr5⟩
                  have hm := ll_more (S' := [Sl.mk A5 K c5 (((l.drop p).take K).map Inf.id)]) (hL5.below ((RowKit.Below.refl _ _).alloc (Nat.le_refl _) _)) rfl (fun s hs => by rw [List.mem_singleton.1 hs]; exact (hS.alloc (Nat.le_refl _) _).more (by simp)) (fun s hs => by
                    rw [List.mem_singleton.1 hs]
                    cases hvb : vo.ownBlock with
                    | none => exact Sl.off_none _
                    | some q => exact Sl.off_own HO5.out (hLLq.out.1.lt q hvb).2) (fun s hs j hj => by rw [List.mem_singleton.1 hs]; exact Sl.off_own HO5.out (by have := hbq.size; omega)) hg9 (hat9.imp id fun h => ⟨_, h, Nat.le_refl _⟩) hown9
                  exact ⟨p + K, _, m - K, _, _, _, v9, rfl, rfl, by omega, by omega, by omega, hidden (by have := row_drop hrow.out hkm; rw [List.drop_drop] at this; exact this), hidden hm, hidden (by rw [List.append_assoc]; exact HG1.out), by simp; omega, (hB5.alloc hB5.size _).grown hg9 (by have := hB5.size; simp; omega) (fun q hq => (hL5.1.lt q hq).1)⟩
                case measure => simp; omega
              · have h1z : ¬ (1 : Int) < (K : Int) := by omega
                rw [if_neg h1, List.nil_append] at hG1
                have HG1 := hidden hG1
                clear hG1
                go_wp2_with fail
                go_roundw
                case rel => exact ⟨p + K, _, m - K, _, _, _, vo, rfl, rfl, by omega, by omega, by omega, hidden (by have := row_drop hrow.out hkm; rw [List.drop_drop] at this; exact this), hLLq, HG1, by omega, hbq⟩
                case measure => simp; omega
    · obtain rfl : m = 0 := by omega
      have hG1 := hG.out
      rw [List.drop_eq_nil_of_le (by rw [hL.out]; omega)] at hG1
      have HG1 := hidden (show G = chainsI l by simpa [chainsI, chainsF] using hG1)
      clear hG1
      go_wp2
      go_ret
      exact ⟨_, S, rfl, by rw [← HG1.out]; exact hLL.out, hb⟩
end Go.Proofs.Ytohocdbneopooaa
