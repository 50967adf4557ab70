/- Lists of times taken away, made anew: what keeps when one row grows. No condition. The laws' own gonesRef: what it returns. Condition: the list is within the reach. Times taken away, that came in, opened. No condition. -/
import Derived.Test.YtohocdbneopooaaStrip
import Derived.Test.YtohocdbneopooaaSerRef21
import Derived.Test.YtohocdbneopooaaRClip
import Derived.Laws.IdiomArrays
namespace Go.Proofs.Ytohocdbneopooaa
set_option maxRecDepth 100000
open Go.RowKit

theorem info_rgon : (Try.prog.info? 131).map (fun i => (i.zero, i.size, i.bytes)) = some (some (.agg #[.slice none 0 0, .slice none 0 0, .slice none 0 0, .slice none 0 0]), 4, 96) := by kernel_rfl
theorem info_rspn : (Try.prog.info? 134).map (fun i => (i.zero, i.size, i.bytes)) = some (some (.agg #[.int .i64 0, .int .i64 0]), 2, 16) := by kernel_rfl
def Gon.gk (x : Gon) : List Lbl × List Spn × List Spn × List Spn := (x.lab.l, x.s0.l, x.s1.l, x.s2.l)
structure Gon.Fit (x : Gon) : Prop where
  labn : x.lab.n * 32 ≤ 140737488351232
  n0 : x.s0.n * 16 ≤ 140737488351232
  n1 : x.s1.n * 16 ≤ 140737488351232
  n2 : x.s2.n * 16 ≤ 140737488351232
structure Gon.Off (X : Option Nat) (x : Gon) : Prop where
  lab : x.lab.Off X
  s0 : x.s0.Off X
  s1 : x.s1.Off X
  s2 : x.s2.Off X
theorem Gon.At.grown {w w' : World} {B : Nat} {x : Gon} {X : Option Nat} (h : x.At w B) (hg : w.grownBy w' X) (hoff : x.Off X) (hB : B ≤ w.heap.size) : x.At w' B := ⟨h.lab.grown hg hoff.lab hB, h.s0.grown hg hoff.s0 hB, h.s1.grown hg hoff.s1 hB, h.s2.grown hg hoff.s2 hB⟩
theorem Gon.At.off {w : World} {B : Nat} {x : Gon} {j : Nat} (h : x.At w B) (hj : B ≤ j) : x.Off (some j) := ⟨h.lab.off hj, h.s0.off hj, h.s1.off hj, h.s2.off hj⟩
theorem Gon.off_none (x : Gon) : x.Off none := ⟨Sl.off_none _, Sl.off_none _, Sl.off_none _, Sl.off_none _⟩
/-- what a list becomes -/
structure GonsAs (w' : World) (v : Value) (gs L : List Gon) : Prop where
  same : L.map Gon.gk = gs.map Gon.gk
  at_ : ∀ y ∈ L, y.At w' w'.heap.size
  off : ∀ y ∈ L, y.Off v.ownBlock
theorem gons_more {W2 w9 : World} {k : Nat} {vo v9 : Value} {gs L : List Gon} {x y : Gon} {c : Obj} (hsame : L.map Gon.gk = (gs.take k).map Gon.gk) (hx : gs[k]? = some x) (hs : y.gk = x.gk) (hL : ∀ z ∈ L, z.At W2 W2.heap.size) (hy : y.At W2 W2.heap.size)
    (hyv : y.Off vo.ownBlock) (hoff : ∀ z ∈ L, z.Off vo.ownBlock) (hg9 : (W2.alloc c).grownBy w9 vo.ownBlock) (hat9 : v9.ownBlock = vo.ownBlock ∨ v9.ownBlock = some (W2.alloc c).heap.size) : GonsAs w9 v9 (gs.take (k + 1)) (L ++ [y]) := by
  have hall : ∀ z ∈ L ++ [y], z.At W2 W2.heap.size ∧ z.Off vo.ownBlock := by
    intro z hz
    rcases List.mem_append.1 hz with h | h
    · exact ⟨hL z h, hoff z h⟩
    · rw [List.mem_singleton.1 h]
      exact ⟨hy, hyv⟩
  have hs9 := hg9.size
  simp only [World.size_alloc] at hs9
  refine ⟨by rw [take_snoc? hx, List.map_append, List.map_append, hsame, List.map_singleton, List.map_singleton, hs], fun z hz => ?_, fun z hz => ?_⟩
  · obtain ⟨h1, h2⟩ := hall z hz
    exact ((h1.grown (gb_alloc (gb_refl W2 none) c) z.off_none (Nat.le_refl _)).grown hg9 h2 (by simp)).more (by omega)
  · obtain ⟨h1, h2⟩ := hall z hz
    rcases hat9 with h | h
    · rw [h]; exact h2
    · rw [h]; exact h1.off (by simp)
theorem tk_congr {gs L : List Gon} (h : L.map Gon.gk = gs.map Gon.gk) (res : Int) (lab : List Lbl) (t : Int) : tk L res lab t = tk gs res lab t := by
  have hone : ∀ g : Gon, tkOne res lab t g = (fun q : List Lbl × List Spn × List Spn × List Spn => decide (cmpLs q.1 lab = 0) && hasP (if res = 0 then q.2.1 else if res = 1 then q.2.2.1 else q.2.2.2) t) g.gk := by
    intro g
    unfold tkOne Gon.sp Gon.gk
    split
    · rfl
    · split <;> rfl
  have e : ∀ M : List Gon, tk M res lab t = (M.map Gon.gk).any (fun q => decide (cmpLs q.1 lab = 0) && hasP (if res = 0 then q.2.1 else if res = 1 then q.2.2.1 else q.2.2.2) t) := by
    intro M
    unfold tk
    rw [List.any_map]
    congr 1
    funext g
    exact hone g
  rw [e, e, h]
/-- spans of the call's own -/
def SpOwn (w : World) (b : Nat) (T : Sl Spn) : Prop := w.ownsRow b 134 2 T.val T.n (spnCells T.l) ∧ T.l.length = T.n
theorem SpOwn.nil (w : World) (b : Nat) : SpOwn w b Sl.nil := ⟨World.ownsRow_nil _ _ _ _, rfl⟩
theorem SpOwn.kept {w w' : World} {b g : Nat} {T : Sl Spn} (h : SpOwn w b T) (hg : w.grownBy w' (some g)) (hb : g < b) : SpOwn w' b T := ⟨h.1.kept hg (.inr fun e => own_ne h.1 hb e.symm), h.2⟩
theorem SpOwn.more {w : World} {b b' : Nat} {T : Sl Spn} (h : SpOwn w b T) (hb : b' ≤ b) : SpOwn w b' T := ⟨own_more h.1 hb, h.2⟩
theorem SpOwn.at_ {w : World} {b : Nat} {T : Sl Spn} (h : SpOwn w b T) : T.At w w.heap.size 2 Spn.cells := by
  obtain ⟨A, c, e, hc, hr⟩ := own_shape h.1
  obtain ⟨A2, n2, c2, l2⟩ := T
  simp only [Sl.val, Value.slice.injEq] at e
  obtain ⟨rfl, _, rfl⟩ := e
  exact ⟨hc, h.2, hr⟩
theorem SpOwn.off {w : World} {b j : Nat} {T : Sl Spn} (h : SpOwn w b T) (hj : j < b) : T.Off (some j) := by
  obtain ⟨A2, n2, c2, l2⟩ := T
  exact Sl.off_own h.1 hj
end Go.Proofs.Ytohocdbneopooaa

namespace Go.Proofs.Ytohocdbneopooaa
set_option maxRecDepth 100000
open Go.RowKit Go.Shelf

set_option maxHeartbeats 12800000 in
theorem gonesRef_any (A : Option Addr) (n c : Nat) (gs : List Gon) (w : World) (h : GonsAt w A n gs) (hf : ∀ x ∈ gs, x.Fit) (hn : n * 96 ≤ 140737488351232) :
    Calls Try.prog 33 #[.slice A n c] w fun e w' => ∃ v L, e = .returned v ∧ w'.ownsRow w.heap.size 131 4 v n (gonCells L) ∧ GonsAs w' v gs L ∧ Below w.heap.size w w' := by
  obtain ⟨i0, hi, hz0, hz1, hz2⟩ := info_parts info_rgon
  obtain ⟨i1, hi1, hz10, hz11, hz12⟩ := info_parts info_rspn
  have HH := hidden h
  have HF := hidden hf
  clear h hf
  go_enter Try.func33, Try.ntmps33
  go_wp2_with fail
  go_loopw [3, 13] (fun v i wr => ∃ (k : Nat) (L : List Gon) (vo : Value), vo = v ∧ k ≤ n ∧ i = .int .i64 k ∧ Hid (wr.ownsRow w.heap.size 131 4 v k (gonCells L)) ∧ Hid (GonsAs wr v (gs.take k) L) ∧ Hid (Below w.heap.size w wr)) (fun _ i _ => n - (intOf i).toNat)
  case atStart => exact ⟨0, [], _, rfl, Nat.zero_le _, rfl, hidden (World.ownsRow_nil _ _ _ _), hidden ⟨rfl, by simp, by simp⟩, hidden (Below.refl _ _)⟩
  case round =>
    obtain ⟨k, L, vo, rfl, hk, rfl, HO0, HA0, HB0⟩ := hrel
    by_cases hlt : k < n
    · obtain ⟨wo, rfl⟩ : ∃ wo : World, wo = wr := ⟨_, rfl⟩
      obtain ⟨gp, o, x, hAe, hgp, hx, hc⟩ := row_at (enc := Gon.cells) (fun _ => rfl) (HH.out.row.below HB0.out) HH.out.len k hlt
      subst hAe
      have HX := hidden hx
      have hxm := List.mem_of_getElem? hx
      have hxa := HH.out.at_ x hxm
      have hxo := HF.out x hxm
      have d0 : wo.cell? ⟨gp, o + k * 4, none⟩ = some x.lab.val := hc 0 (by omega)
      have d1 : wo.cell? ⟨gp, o + k * 4 + 1, none⟩ = some x.s0.val := hc 1 (by omega)
      have d2 : wo.cell? ⟨gp, o + k * 4 + 2, none⟩ = some x.s1.val := hc 2 (by omega)
      have d3 : wo.cell? ⟨gp, o + k * 4 + 3, none⟩ = some x.s2.val := hc 3 (by omega)
      clear hx hxm hc
      obtain ⟨⟨Al, nl, cl, ll⟩, ⟨A0, n0, c0, l0⟩, ⟨A1, n1, c1, l1⟩, ⟨A2, n2, c2, l2⟩⟩ := x
      simp only [Sl.val] at d0 d1 d2 d3
      obtain ⟨⟨_, hll, hrl⟩, ⟨_, hl0, hr0⟩, ⟨_, hl1, hr1⟩, ⟨_, hl2, hr2⟩⟩ := hxa
      simp only at hll hrl hl0 hr0 hl1 hr1 hl2 hr2
      obtain ⟨bl, b0, b1, b2⟩ := hxo
      simp only at bl b0 b1 b2
      have hbs := HB0.out.size
      go_wp2_with fail
      refine (labelsRef21_any Al nl cl ll _ ((((hrl.below HB0.out).more hbs).alloc (Nat.le_refl _) _).more (by simp)) hll bl).mono ?_
      rintro e w1 ⟨vl, rfl, hol, hb1⟩
      obtain ⟨Bl, kl, rfl, hkl, hr9⟩ := own_shape hol
      have hg5 : Whole1 w1 wo.heap.size 123 #[.slice Al nl cl, .slice A0 n0 c0, .slice A1 n1 c1, .slice A2 n2 c2] := (Whole1.new wo _ _).below hb1 (by simp)
      have hbw1 : Below w.heap.size w w1 := (HB0.out.alloc hbs _).trans (hb1.mono (by simp; omega))
      have hw1s : wo.heap.size + 1 ≤ w1.heap.size := by have := hb1.size; simpa using this
      have hol' : w1.ownsRow (wo.heap.size + 1) 146 2 (.slice Bl nl kl) nl (lblCells ll) := by simpa using hol
      have hown1 : w1.ownsRow w.heap.size 131 4 vo k (gonCells L) := own_below (HO0.out.alloc _) hb1 (Nat.le_refl _)
      have hlb : ∀ q, (Value.slice Bl nl kl).ownBlock = some q → q < w1.heap.size := fun q hq => (hol'.lt q hq).2
      have HLB := hidden hlb
      clear hol hlb
      go_upto_region 6 with (fail)
      have hW6 := Whole1.new w1 131 #[.slice Bl nl kl, .slice none 0 0, .slice none 0 0, .slice none 0 0]
      have hW5 := hg5.alloc (Obj.cells #[.slice Bl nl kl, .slice none 0 0, .slice none 0 0, .slice none 0 0] 131)
      have hWb := hbw1.alloc hbw1.size (Obj.cells #[.slice Bl nl kl, .slice none 0 0, .slice none 0 0, .slice none 0 0] 131)
      have hWl := hol'.alloc (Obj.cells #[.slice Bl nl kl, .slice none 0 0, .slice none 0 0, .slice none 0 0] 131)
      have hWo := hown1.alloc (Obj.cells #[.slice Bl nl kl, .slice none 0 0, .slice none 0 0, .slice none 0 0] 131)
      have hWg : wo.grownBy (w1.alloc (Obj.cells #[.slice Bl nl kl, .slice none 0 0, .slice none 0 0, .slice none 0 0] 131)) none := gb_alloc (gb_trans (gb_alloc (gb_refl wo none) _) (gb_below hb1 none)) _
      have hWs : (w1.alloc (Obj.cells #[.slice Bl nl kl, .slice none 0 0, .slice none 0 0, .slice none 0 0] 131)).heap.size = w1.heap.size + 1 := by simp
      generalize w1.alloc _ = W0 at *
      have H5 := hidden hW5
      have HB := hidden hWb
      have HL := hidden hWl
      have HO := hidden hWo
      have HG := hidden hWg
      have HS := hidden hWs
      clear hW5 hWb hWl hWo hWg hWs hg5 hol' hown1 hbw1 hb1
      obtain ⟨g6, hg6⟩ : ∃ g6, w1.heap.size = g6 := ⟨_, rfl⟩
      rw [hg6] at hW6 HS hw1s HLB ⊢
      clear hr9 hg6 w1 d0 d1 d2 d3
      have c51 : W0.cell? ⟨wo.heap.size, 1, none⟩ = some (.slice A0 n0 c0) := H5.out.cell 1
      have c52 : W0.cell? ⟨wo.heap.size, 2, none⟩ = some (.slice A1 n1 c1) := H5.out.cell 2
      have c53 : W0.cell? ⟨wo.heap.size, 3, none⟩ = some (.slice A2 n2 c2) := H5.out.cell 3
      go_wp2_with fail
      clear c51 c52 c53
      go_loopw [23] (fun i wx => ∃ (j : Nat) (T0 T1 T2 : Sl Spn), j ≤ 3 ∧ i = .int .i64 j ∧ Hid (W0.grownBy wx (some g6)) ∧ Hid (Whole1 wx g6 131 #[.slice Bl nl kl, .slice T0.A T0.n T0.c, .slice T1.A T1.n T1.c, .slice T2.A T2.n T2.c]) ∧ Hid (SpOwn wx (g6 + 1) T0 ∧ SpOwn wx (g6 + 1) T1 ∧ SpOwn wx (g6 + 1) T2) ∧ Hid ((0 < j → T0.l = l0) ∧ (1 < j → T1.l = l1) ∧ (2 < j → T2.l = l2)) ∧ Hid ((j ≤ 0 → T0 = Sl.nil) ∧ (j ≤ 1 → T1 = Sl.nil) ∧ (j ≤ 2 → T2 = Sl.nil))) (fun i _ => 3 - (intOf i).toNat)
      case atStart => exact ⟨0, Sl.nil, Sl.nil, Sl.nil, Nat.zero_le _, rfl, hidden (gb_refl _ _), hidden hW6, hidden ⟨SpOwn.nil _ _, SpOwn.nil _ _, SpOwn.nil _ _⟩, hidden ⟨fun h => absurd h (by omega), fun h => absurd h (by omega), fun h => absurd h (by omega)⟩, hidden ⟨fun _ => rfl, fun _ => rfl, fun _ => rfl⟩⟩
      case round =>
        obtain ⟨j, T0, T1, T2, hj, rfl, HGX, HZX, HSP, HLL, HNN⟩ := hrel
        obtain ⟨wi, rfl⟩ : ∃ wi : World, wi = wr := ⟨_, rfl⟩
        clear hW6
        have hgs6 := HGX.out.size
        rw [HS.out] at hgs6
        rcases (by omega : j = 0 ∨ j = 1 ∨ j = 2 ∨ j = 3) with rfl | rfl | rfl | rfl
        · have hTn : T0 = Sl.nil := HNN.out.1 (by omega)
          subst hTn
          have HZ0 : Hid (Whole1 wi g6 131 #[.slice Bl nl kl, .slice none 0 0, .slice T1.A T1.n T1.c, .slice T2.A T2.n T2.c]) := HZX
          rw [show ((0 : Nat) : Int) = 0 from rfl]
          have ix : ∀ w, (Instr.index 121 (.agg #[.slice A0 n0 c0, .slice A1 n1 c1, .slice A2 n2 c2]) (.int .i64 0)).run Try.prog w = .ok (.slice A0 n0 c0) w := fun _ => by kernel_rfl
          go_wp2_with fail
          go_loopw [29] (fun i wx => ∃ (m cq : Nat) (Aq : Option Addr), m ≤ n0 ∧ i = .int .i64 m ∧ Hid (wi.grownBy wx (some g6)) ∧ Hid (Whole1 wx g6 131 #[.slice Bl nl kl, .slice Aq m cq, .slice T1.A T1.n T1.c, .slice T2.A T2.n T2.c]) ∧ Hid (wx.ownsRow wi.heap.size 134 2 (.slice Aq m cq) m (spnCells (l0.take m)))) (fun i _ => n0 - (intOf i).toNat)
          case atStart => exact ⟨0, 0, none, Nat.zero_le _, rfl, hidden (gb_refl _ _), HZ0, hidden (World.ownsRow_nil _ _ _ _)⟩
          case round =>
            obtain ⟨m, cq, Aq, hm, rfl, hg, hX, ho⟩ := hrel
            obtain ⟨wq, rfl⟩ : ∃ wq : World, wq = wr := ⟨_, rfl⟩
            have hgs := hg.out.size
            have hbi : Below w.heap.size w wi := below_gb HB.out HGX.out (by rw [HS.out]; omega) (by omega)
            have hbx : Below w.heap.size w wq := below_gb hbi hg.out hbi.size (by omega)
            by_cases hmn : m < n0
            · obtain ⟨gy, oy, z, hAy, hgy, hz, hcy⟩ := row_at (enc := Spn.cells) (fun _ => rfl) (hr0.below hbx) hl0 m hmn
              subst hAy
              have u0 : wq.cell? ⟨gy, oy + m * 2, none⟩ = some (.int .i64 z.frm) := hcy 0 (by omega)
              have u1 : wq.cell? ⟨gy, oy + m * 2 + 1, none⟩ = some (.int .i64 z.til) := hcy 1 (by omega)
              have HT : Hid (l0.take (m + 1) = l0.take m ++ [z]) := hidden (take_snoc? hz)
              have e2 : (m : Int) < (n0 : Int) := by omega
              have e3 : (0 : Int) ≤ (m : Int) := by omega
              have hXx := hX.out.alloc (Obj.cells #[.int .i64 z.frm, .int .i64 z.til] 133)
              have hox := ho.out.alloc (Obj.cells #[.int .i64 z.frm, .int .i64 z.til] 133)
              have hgx := gb_alloc hg.out (Obj.cells #[.int .i64 z.frm, .int .i64 z.til] 133)
              have hYb := Whole1.new wq 133 #[.int .i64 z.frm, .int .i64 z.til]
              have hys : (wq.alloc (Obj.cells #[.int .i64 z.frm, .int .i64 z.til] 133)).heap.size = wq.heap.size + 1 := World.size_alloc _ _
              clear hz hcy ix
              go_upto_region 12 with (fail)
              generalize wq.alloc (.cells #[.int .i64 z.frm, .int .i64 z.til] 133) = wy at hXx hox hgx hYb hys ⊢
              clear u0 u1
              have k0 := hYb.cell 0
              have k1 := hYb.cell 1
              have e1 := hXx.cell 1
              have f1 := hXx.free 1
              have hfr := Row.fresh wy.drew 134 2 1 [.int .i64 z.frm, .int .i64 z.til] rfl
              rw [show wy.drew.heap.size = wq.heap.size + 1 from hys] at hfr
              have T := fun (ops : Array Oper) (o : Oper) (a : Act) (K : Act → World → Prop) (Q : Exit → Act → World → Prop) (E : Prop) (hg : o.guard = none) (s1 s2 : Operand) (ho : o.op = .call { callee := .builtin .append, args := #[s1, s2], argTypes := #[128, 128] }) (hs : a.eval s1 = .slice Aq m cq) (hx : a.eval s2 = .slice (some ⟨wq.heap.size + 1, 0, none⟩) 1 1) h =>
                step_app (P := Try.prog) (ops := ops) (o := o) (a := a) (K := K) (Q := Q) (E := E) (wy.drew.alloc (.cells #[.int .i64 z.frm, .int .i64 z.til] 134)) hg s1 s2 128 ho wi.heap.size 134 i1 _ 2 16 Try.underlying128 hi1 hz10 hz11 hz12 rfl (by decide) _ _ _ hs (hox.alloc _) _ _ _ _ _ hx hfr (by simp [Value.oneCell']) (by unfold maxLen; omega) (by omega) (by rw [World.size_alloc]; have : wy.drew.heap.size = wy.heap.size := rfl; omega) h
              have k0b : (wy.alloc (.cells #[.int .i64 z.frm, .int .i64 z.til] 134)).cell? ⟨wq.heap.size, 0, none⟩ = some (.int .i64 z.frm) := (hYb.alloc _).cell 0
              have k1b : (wy.alloc (.cells #[.int .i64 z.frm, .int .i64 z.til] 134)).cell? ⟨wq.heap.size, 1, none⟩ = some (.int .i64 z.til) := (hYb.alloc _).cell 1
              have e1b := (hXx.alloc (.cells #[.int .i64 z.frm, .int .i64 z.til] 134)).cell 1
              clear hfr
              go_region_law (refine T _ _ _ _ _ _ rfl _ _ rfl rfl rfl ?_; intro v10 w10 hown10 hg10 hat10; obtain ⟨A10, c10, rfl, hc10, hr10⟩ := own_shape hown10; have hZ10 := (hXx.drew.alloc (.cells #[.int .i64 z.frm, .int .i64 z.til] 134)).grown hg10 (own_ne ho.out (by omega)); have q1 := hZ10.cell 1; have f2 := hZ10.free 1)
              all_goals
                go_wp2_with fail
                go_roundw
                case rel => exact ⟨m + 1, c10, A10, by omega, by go_num, hidden (gb_put (gb_far (gb_alloc (gb_drew hgx) _) hg10 (fun q hq => (ho.out.lt q hq).1)) _ _), hidden (hZ10.put 1 _), hidden (own_put (by rw [HT.out, spnCells, List.flatMap_append]; exact hown10) (by omega) 1 _)⟩
                case measure => simp [intOf]; omega
            · obtain rfl : n0 = m := by omega
              have hT0 : Hid (SpOwn wq (g6 + 1) ⟨Aq, n0, cq, l0⟩) := hidden (by
                have := ho.out
                rw [List.take_of_length_le (by rw [hl0]; exact Nat.le_refl _)] at this
                exact SpOwn.more ⟨this, hl0⟩ (by omega))
              clear ix
              go_wp2_with fail
              go_roundw
              case rel => exact ⟨1, ⟨Aq, n0, cq, l0⟩, T1, T2, by omega, by go_num, hidden (gb_trans HGX.out hg.out), hX, hidden ⟨hT0.out, HSP.out.2.1.kept hg.out (by omega), HSP.out.2.2.kept hg.out (by omega)⟩, hidden ⟨fun _ => rfl, fun h => absurd h (by omega), fun h => absurd h (by omega)⟩, hidden ⟨fun h => absurd h (by omega), fun _ => HNN.out.2.1 (by omega), fun _ => HNN.out.2.2 (by omega)⟩⟩
              case measure => simp [intOf]
        · have hTn : T1 = Sl.nil := HNN.out.2.1 (by omega)
          subst hTn
          have HZ0 : Hid (Whole1 wi g6 131 #[.slice Bl nl kl, .slice T0.A T0.n T0.c, .slice none 0 0, .slice T2.A T2.n T2.c]) := HZX
          rw [show ((1 : Nat) : Int) = 1 from rfl]
          have ix : ∀ w, (Instr.index 121 (.agg #[.slice A0 n0 c0, .slice A1 n1 c1, .slice A2 n2 c2]) (.int .i64 1)).run Try.prog w = .ok (.slice A1 n1 c1) w := fun _ => by kernel_rfl
          go_wp2_with fail
          go_loopw [29] (fun i wx => ∃ (m cq : Nat) (Aq : Option Addr), m ≤ n1 ∧ i = .int .i64 m ∧ Hid (wi.grownBy wx (some g6)) ∧ Hid (Whole1 wx g6 131 #[.slice Bl nl kl, .slice T0.A T0.n T0.c, .slice Aq m cq, .slice T2.A T2.n T2.c]) ∧ Hid (wx.ownsRow wi.heap.size 134 2 (.slice Aq m cq) m (spnCells (l1.take m)))) (fun i _ => n1 - (intOf i).toNat)
          case atStart => exact ⟨0, 0, none, Nat.zero_le _, rfl, hidden (gb_refl _ _), HZ0, hidden (World.ownsRow_nil _ _ _ _)⟩
          case round =>
            obtain ⟨m, cq, Aq, hm, rfl, hg, hX, ho⟩ := hrel
            obtain ⟨wq, rfl⟩ : ∃ wq : World, wq = wr := ⟨_, rfl⟩
            have hgs := hg.out.size
            have hbi : Below w.heap.size w wi := below_gb HB.out HGX.out (by rw [HS.out]; omega) (by omega)
            have hbx : Below w.heap.size w wq := below_gb hbi hg.out hbi.size (by omega)
            by_cases hmn : m < n1
            · obtain ⟨gy, oy, z, hAy, hgy, hz, hcy⟩ := row_at (enc := Spn.cells) (fun _ => rfl) (hr1.below hbx) hl1 m hmn
              subst hAy
              have u0 : wq.cell? ⟨gy, oy + m * 2, none⟩ = some (.int .i64 z.frm) := hcy 0 (by omega)
              have u1 : wq.cell? ⟨gy, oy + m * 2 + 1, none⟩ = some (.int .i64 z.til) := hcy 1 (by omega)
              have HT : Hid (l1.take (m + 1) = l1.take m ++ [z]) := hidden (take_snoc? hz)
              have e2 : (m : Int) < (n1 : Int) := by omega
              have e3 : (0 : Int) ≤ (m : Int) := by omega
              have hXx := hX.out.alloc (Obj.cells #[.int .i64 z.frm, .int .i64 z.til] 133)
              have hox := ho.out.alloc (Obj.cells #[.int .i64 z.frm, .int .i64 z.til] 133)
              have hgx := gb_alloc hg.out (Obj.cells #[.int .i64 z.frm, .int .i64 z.til] 133)
              have hYb := Whole1.new wq 133 #[.int .i64 z.frm, .int .i64 z.til]
              have hys : (wq.alloc (Obj.cells #[.int .i64 z.frm, .int .i64 z.til] 133)).heap.size = wq.heap.size + 1 := World.size_alloc _ _
              clear hz hcy ix
              go_upto_region 12 with (fail)
              generalize wq.alloc (.cells #[.int .i64 z.frm, .int .i64 z.til] 133) = wy at hXx hox hgx hYb hys ⊢
              clear u0 u1
              have k0 := hYb.cell 0
              have k1 := hYb.cell 1
              have e1 := hXx.cell 2
              have f1 := hXx.free 2
              have hfr := Row.fresh wy.drew 134 2 1 [.int .i64 z.frm, .int .i64 z.til] rfl
              rw [show wy.drew.heap.size = wq.heap.size + 1 from hys] at hfr
              have T := fun (ops : Array Oper) (o : Oper) (a : Act) (K : Act → World → Prop) (Q : Exit → Act → World → Prop) (E : Prop) (hg : o.guard = none) (s1 s2 : Operand) (ho : o.op = .call { callee := .builtin .append, args := #[s1, s2], argTypes := #[128, 128] }) (hs : a.eval s1 = .slice Aq m cq) (hx : a.eval s2 = .slice (some ⟨wq.heap.size + 1, 0, none⟩) 1 1) h =>
                step_app (P := Try.prog) (ops := ops) (o := o) (a := a) (K := K) (Q := Q) (E := E) (wy.drew.alloc (.cells #[.int .i64 z.frm, .int .i64 z.til] 134)) hg s1 s2 128 ho wi.heap.size 134 i1 _ 2 16 Try.underlying128 hi1 hz10 hz11 hz12 rfl (by decide) _ _ _ hs (hox.alloc _) _ _ _ _ _ hx hfr (by simp [Value.oneCell']) (by unfold maxLen; omega) (by omega) (by rw [World.size_alloc]; have : wy.drew.heap.size = wy.heap.size := rfl; omega) h
              have k0b : (wy.alloc (.cells #[.int .i64 z.frm, .int .i64 z.til] 134)).cell? ⟨wq.heap.size, 0, none⟩ = some (.int .i64 z.frm) := (hYb.alloc _).cell 0
              have k1b : (wy.alloc (.cells #[.int .i64 z.frm, .int .i64 z.til] 134)).cell? ⟨wq.heap.size, 1, none⟩ = some (.int .i64 z.til) := (hYb.alloc _).cell 1
              have e1b := (hXx.alloc (.cells #[.int .i64 z.frm, .int .i64 z.til] 134)).cell 2
              clear hfr
              go_region_law (refine T _ _ _ _ _ _ rfl _ _ rfl rfl rfl ?_; intro v10 w10 hown10 hg10 hat10; obtain ⟨A10, c10, rfl, hc10, hr10⟩ := own_shape hown10; have hZ10 := (hXx.drew.alloc (.cells #[.int .i64 z.frm, .int .i64 z.til] 134)).grown hg10 (own_ne ho.out (by omega)); have q1 := hZ10.cell 2; have f2 := hZ10.free 2)
              all_goals
                go_wp2_with fail
                go_roundw
                case rel => exact ⟨m + 1, c10, A10, by omega, by go_num, hidden (gb_put (gb_far (gb_alloc (gb_drew hgx) _) hg10 (fun q hq => (ho.out.lt q hq).1)) _ _), hidden (hZ10.put 2 _), hidden (own_put (by rw [HT.out, spnCells, List.flatMap_append]; exact hown10) (by omega) 2 _)⟩
                case measure => simp [intOf]; omega
            · obtain rfl : n1 = m := by omega
              have hT1 : Hid (SpOwn wq (g6 + 1) ⟨Aq, n1, cq, l1⟩) := hidden (by
                have := ho.out
                rw [List.take_of_length_le (by rw [hl1]; exact Nat.le_refl _)] at this
                exact SpOwn.more ⟨this, hl1⟩ (by omega))
              clear ix
              go_wp2_with fail
              go_roundw
              case rel => exact ⟨2, T0, ⟨Aq, n1, cq, l1⟩, T2, by omega, by go_num, hidden (gb_trans HGX.out hg.out), hX, hidden ⟨HSP.out.1.kept hg.out (by omega), hT1.out, HSP.out.2.2.kept hg.out (by omega)⟩, hidden ⟨fun _ => HLL.out.1 (by omega), fun _ => rfl, fun h => absurd h (by omega)⟩, hidden ⟨fun h => absurd h (by omega), fun h => absurd h (by omega), fun _ => HNN.out.2.2 (by omega)⟩⟩
              case measure => simp [intOf]
        · have hTn : T2 = Sl.nil := HNN.out.2.2 (by omega)
          subst hTn
          have HZ0 : Hid (Whole1 wi g6 131 #[.slice Bl nl kl, .slice T0.A T0.n T0.c, .slice T1.A T1.n T1.c, .slice none 0 0]) := HZX
          rw [show ((2 : Nat) : Int) = 2 from rfl]
          have ix : ∀ w, (Instr.index 121 (.agg #[.slice A0 n0 c0, .slice A1 n1 c1, .slice A2 n2 c2]) (.int .i64 2)).run Try.prog w = .ok (.slice A2 n2 c2) w := fun _ => by kernel_rfl
          go_wp2_with fail
          go_loopw [29] (fun i wx => ∃ (m cq : Nat) (Aq : Option Addr), m ≤ n2 ∧ i = .int .i64 m ∧ Hid (wi.grownBy wx (some g6)) ∧ Hid (Whole1 wx g6 131 #[.slice Bl nl kl, .slice T0.A T0.n T0.c, .slice T1.A T1.n T1.c, .slice Aq m cq]) ∧ Hid (wx.ownsRow wi.heap.size 134 2 (.slice Aq m cq) m (spnCells (l2.take m)))) (fun i _ => n2 - (intOf i).toNat)
          case atStart => exact ⟨0, 0, none, Nat.zero_le _, rfl, hidden (gb_refl _ _), HZ0, hidden (World.ownsRow_nil _ _ _ _)⟩
          case round =>
            obtain ⟨m, cq, Aq, hm, rfl, hg, hX, ho⟩ := hrel
            obtain ⟨wq, rfl⟩ : ∃ wq : World, wq = wr := ⟨_, rfl⟩
            have hgs := hg.out.size
            have hbi : Below w.heap.size w wi := below_gb HB.out HGX.out (by rw [HS.out]; omega) (by omega)
            have hbx : Below w.heap.size w wq := below_gb hbi hg.out hbi.size (by omega)
            by_cases hmn : m < n2
            · obtain ⟨gy, oy, z, hAy, hgy, hz, hcy⟩ := row_at (enc := Spn.cells) (fun _ => rfl) (hr2.below hbx) hl2 m hmn
              subst hAy
              have u0 : wq.cell? ⟨gy, oy + m * 2, none⟩ = some (.int .i64 z.frm) := hcy 0 (by omega)
              have u1 : wq.cell? ⟨gy, oy + m * 2 + 1, none⟩ = some (.int .i64 z.til) := hcy 1 (by omega)
              have HT : Hid (l2.take (m + 1) = l2.take m ++ [z]) := hidden (take_snoc? hz)
              have e2 : (m : Int) < (n2 : Int) := by omega
              have e3 : (0 : Int) ≤ (m : Int) := by omega
              have hXx := hX.out.alloc (Obj.cells #[.int .i64 z.frm, .int .i64 z.til] 133)
              have hox := ho.out.alloc (Obj.cells #[.int .i64 z.frm, .int .i64 z.til] 133)
              have hgx := gb_alloc hg.out (Obj.cells #[.int .i64 z.frm, .int .i64 z.til] 133)
              have hYb := Whole1.new wq 133 #[.int .i64 z.frm, .int .i64 z.til]
              have hys : (wq.alloc (Obj.cells #[.int .i64 z.frm, .int .i64 z.til] 133)).heap.size = wq.heap.size + 1 := World.size_alloc _ _
              clear hz hcy ix
              go_upto_region 12 with (fail)
              generalize wq.alloc (.cells #[.int .i64 z.frm, .int .i64 z.til] 133) = wy at hXx hox hgx hYb hys ⊢
              clear u0 u1
              have k0 := hYb.cell 0
              have k1 := hYb.cell 1
              have e1 := hXx.cell 3
              have f1 := hXx.free 3
              have hfr := Row.fresh wy.drew 134 2 1 [.int .i64 z.frm, .int .i64 z.til] rfl
              rw [show wy.drew.heap.size = wq.heap.size + 1 from hys] at hfr
              have T := fun (ops : Array Oper) (o : Oper) (a : Act) (K : Act → World → Prop) (Q : Exit → Act → World → Prop) (E : Prop) (hg : o.guard = none) (s1 s2 : Operand) (ho : o.op = .call { callee := .builtin .append, args := #[s1, s2], argTypes := #[128, 128] }) (hs : a.eval s1 = .slice Aq m cq) (hx : a.eval s2 = .slice (some ⟨wq.heap.size + 1, 0, none⟩) 1 1) h =>
                step_app (P := Try.prog) (ops := ops) (o := o) (a := a) (K := K) (Q := Q) (E := E) (wy.drew.alloc (.cells #[.int .i64 z.frm, .int .i64 z.til] 134)) hg s1 s2 128 ho wi.heap.size 134 i1 _ 2 16 Try.underlying128 hi1 hz10 hz11 hz12 rfl (by decide) _ _ _ hs (hox.alloc _) _ _ _ _ _ hx hfr (by simp [Value.oneCell']) (by unfold maxLen; omega) (by omega) (by rw [World.size_alloc]; have : wy.drew.heap.size = wy.heap.size := rfl; omega) h
              have k0b : (wy.alloc (.cells #[.int .i64 z.frm, .int .i64 z.til] 134)).cell? ⟨wq.heap.size, 0, none⟩ = some (.int .i64 z.frm) := (hYb.alloc _).cell 0
              have k1b : (wy.alloc (.cells #[.int .i64 z.frm, .int .i64 z.til] 134)).cell? ⟨wq.heap.size, 1, none⟩ = some (.int .i64 z.til) := (hYb.alloc _).cell 1
              have e1b := (hXx.alloc (.cells #[.int .i64 z.frm, .int .i64 z.til] 134)).cell 3
              clear hfr
              go_region_law (refine T _ _ _ _ _ _ rfl _ _ rfl rfl rfl ?_; intro v10 w10 hown10 hg10 hat10; obtain ⟨A10, c10, rfl, hc10, hr10⟩ := own_shape hown10; have hZ10 := (hXx.drew.alloc (.cells #[.int .i64 z.frm, .int .i64 z.til] 134)).grown hg10 (own_ne ho.out (by omega)); have q1 := hZ10.cell 3; have f2 := hZ10.free 3)
              all_goals
                go_wp2_with fail
                go_roundw
                case rel => exact ⟨m + 1, c10, A10, by omega, by go_num, hidden (gb_put (gb_far (gb_alloc (gb_drew hgx) _) hg10 (fun q hq => (ho.out.lt q hq).1)) _ _), hidden (hZ10.put 3 _), hidden (own_put (by rw [HT.out, spnCells, List.flatMap_append]; exact hown10) (by omega) 3 _)⟩
                case measure => simp [intOf]; omega
            · obtain rfl : n2 = m := by omega
              have hT2 : Hid (SpOwn wq (g6 + 1) ⟨Aq, n2, cq, l2⟩) := hidden (by
                have := ho.out
                rw [List.take_of_length_le (by rw [hl2]; exact Nat.le_refl _)] at this
                exact SpOwn.more ⟨this, hl2⟩ (by omega))
              clear ix
              go_wp2_with fail
              go_roundw
              case rel => exact ⟨3, T0, T1, ⟨Aq, n2, cq, l2⟩, by omega, by go_num, hidden (gb_trans HGX.out hg.out), hX, hidden ⟨HSP.out.1.kept hg.out (by omega), HSP.out.2.1.kept hg.out (by omega), hT2.out⟩, hidden ⟨fun _ => HLL.out.1 (by omega), fun _ => HLL.out.2.1 (by omega), fun _ => rfl⟩, hidden ⟨fun h => absurd h (by omega), fun h => absurd h (by omega), fun h => absurd h (by omega)⟩⟩
              case measure => simp [intOf]
        · have hne : ∀ q, vo.ownBlock = some q → q < wo.heap.size := fun q hq => (HO0.out.lt q hq).2
          have hoO : wi.ownsRow w.heap.size 131 4 vo k (gonCells L) := HO.out.kept HGX.out (.inr fun e => by have := hne _ e; omega)
          have hoL : wi.ownsRow (wo.heap.size + 1) 146 2 (.slice Bl nl kl) nl (lblCells ll) := HL.out.kept HGX.out (.inr fun e => by have := HLB.out _ e; omega)
          have hLw : ∀ y ∈ L, y.At wi wi.heap.size := fun y hy => (((HA0.out.at_ y hy).grown HG.out y.off_none (Nat.le_refl _)).grown HGX.out ((HA0.out.at_ y hy).off (by omega)) (by rw [HS.out]; omega)).more (by omega)
          have hb2 : Below w.heap.size w wi := below_gb HB.out HGX.out (by rw [HS.out]; omega) (by omega)
          have q0 := HZX.out.cell 0
          have q1 := HZX.out.cell 1
          have q2 := HZX.out.cell 2
          have q3 := HZX.out.cell 3
          have hfr := Row.fresh wi 131 4 1 [.slice Bl nl kl, .slice T0.A T0.n T0.c, .slice T1.A T1.n T1.c, .slice T2.A T2.n T2.c] rfl
          have hws := hb2.size
          go_wp2_with (at_builtin; refine wpList_app _ rfl _ _ 63 rfl w.heap.size 131 i0 _ 4 96 Try.underlying63 hi hz0 hz1 hz2 rfl (by decide) _ _ _ rfl (hoO.alloc _) _ _ _ _ _ rfl hfr (by simp [Value.oneCell']) (by unfold maxLen; omega) (by omega) (by simp; omega) ?_; intro v9 w9 hown9 hg9 hat9)
          go_roundw
          case rel =>
            have hyv : (Gon.mk ⟨Bl, nl, kl, ll⟩ T0 T1 T2).Off vo.ownBlock := by
              cases hvb : vo.ownBlock with
              | none => exact Gon.off_none _
              | some q =>
                have hq := hne q hvb
                exact ⟨Sl.off_own hoL (by omega), HSP.out.1.off (by omega), HSP.out.2.1.off (by omega), HSP.out.2.2.off (by omega)⟩
            have hy : (Gon.mk ⟨Bl, nl, kl, ll⟩ T0 T1 T2).At wi wi.heap.size := ⟨⟨hkl, hll, Row.of_own hoL⟩, HSP.out.1.at_, HSP.out.2.1.at_, HSP.out.2.2.at_⟩
            have hm := gons_more HA0.out.same HX.out (y := Gon.mk ⟨Bl, nl, kl, ll⟩ T0 T1 T2) (by simp only [Gon.gk]; rw [HLL.out.1 (by omega), HLL.out.2.1 (by omega), HLL.out.2.2 (by omega)]) hLw hy hyv HA0.out.off hg9 hat9
            exact ⟨k + 1, _, v9, rfl, by omega, by go_num, hidden (by rw [gonCells, List.flatMap_append]; exact hown9), hidden hm, hidden ((hb2.alloc hb2.size _).grown hg9 (by simp; omega) (fun q hq => (hoO.lt q hq).1))⟩
          case measure => simp [intOf]; omega
    · obtain rfl : n = k := by omega
      go_wp2_with fail
      go_ret
      refine ⟨_, L, rfl, HO0.out, ?_, HB0.out⟩
      have := HA0.out
      rwa [List.take_of_length_le (by rw [HH.out.len]; exact Nat.le_refl _)] at this
end Go.Proofs.Ytohocdbneopooaa

namespace Go.Proofs.Ytohocdbneopooaa
set_option maxRecDepth 100000
open Go.RowKit

section
variable {H : Type} {enc : TypeId × Value → H} {P : Program} {W : World} {b : Nat}
/-- an array of three -/
theorem open_arr3 {t e : TypeId} {fuel : Nat} {c0 c1 c2 : Value} {x : DataW H × List MemPlace} (ht : P.underlying t = some (.array 3 e)) (hce : P.cellsOf e = 1) (h : DataW.trod enc P W 0 (fun _ => true) true fuel t [c0, c1, c2] = some x) (hf : Fits P W b t x) :
    ∃ n y0 y1 y2, (DataW.trod enc P W 0 (fun _ => true) true n e [c0] = some y0 ∧ Fits P W b e y0) ∧ (DataW.trod enc P W 0 (fun _ => true) true n e [c1] = some y1 ∧ Fits P W b e y1) ∧ (DataW.trod enc P W 0 (fun _ => true) true n e [c2] = some y2 ∧ Fits P W b e y2) := by
  obtain ⟨y0, y1, y2, n, rfl, h0, h1, h2⟩ := Go.ChangeShapes.trod_array3 ht hce h
  have hb : Rows.uptoBulkAll [y0.1, y1.1, y2.1] + 1 ≤ b := hf.small
  have hw : ∀ d ∈ [y0.1, y1.1, y2.1], (∀ k ∈ d.weights P e, k ≤ reachBytes) ∧ Rows.uptoBulk d ≤ b := fun d hd => ⟨fun k hk => hf.light k (by simp only [DataW.weights, ht]; exact weights_all hd hk), by have := bulk_mem hd; omega⟩
  refine ⟨n, y0, y1, y2, ⟨h0, fun p hp => hf.old p (by simp [hp]), (hw _ (by simp)).1, (hw _ (by simp)).2⟩, ⟨h1, fun p hp => hf.old p (by simp [hp]), (hw _ (by simp)).1, (hw _ (by simp)).2⟩, ⟨h2, fun p hp => hf.old p (by simp [hp]), (hw _ (by simp)).1, (hw _ (by simp)).2⟩⟩

theorem opens_spn : Opens enc Try.prog W b 133 Spn.cells Spn.ok := by
  intro fuel cs x h hf
  obtain ⟨n, hl, hp⟩ := open_ones Try.underlying133 (by kernel_rfl) (by kernel_rfl) h hf
  obtain ⟨u0, y0, c0, t0, f0⟩ := hp 0 _ rfl
  obtain ⟨u1, y1, c1, t1, f1⟩ := hp 1 _ rfl
  obtain ⟨s0, e0, g0⟩ := opens_int Try.underlying2 _ _ _ t0 f0
  obtain ⟨s1, e1, g1⟩ := opens_int Try.underlying2 _ _ _ t1 f1
  simp only [List.cons.injEq, and_true] at e0 e1
  subst e0 e1
  have w0 := wf_i64 g0
  have w1 := wf_i64 g1
  match cs, hl with
  | [a, c], _ =>
    simp only [List.getElem?_cons_zero, List.getElem?_cons_succ, Option.some.injEq] at c0 c1
    exact ⟨⟨s0, s1⟩, by rw [c0, c1]; rfl, w0.1, w0.2, w1.1, w1.2⟩
theorem opens_gon : Opens enc Try.prog W b 123 Gon.cells (fun x => x.At W W.heap.size ∧ x.Fit) := by
  intro fuel cs x h hf
  obtain ⟨n, hl, hp⟩ := open_parts Try.underlying123 h hf
  obtain ⟨y0, t0, f0⟩ := hp 0 _ rfl
  obtain ⟨y1, t1, f1⟩ := hp 1 _ rfl
  rw [show Try.prog.cellsOf 123 = 4 from by kernel_rfl] at hl
  match cs, hl with
  | [a, c, d, e], _ =>
    have t0 : DataW.trod enc Try.prog W 0 (fun _ => true) true n 42 (([a, c, d, e].drop 0).take (Try.prog.cellsOf 42)) = some y0 := t0
    have t1 : DataW.trod enc Try.prog W 0 (fun _ => true) true n 121 (([a, c, d, e].drop 1).take (Try.prog.cellsOf 121)) = some y1 := t1
    rw [show Try.prog.cellsOf 42 = 1 from by kernel_rfl] at t0
    rw [show Try.prog.cellsOf 121 = 3 from by kernel_rfl] at t1
    simp only [List.drop_zero, List.drop_succ_cons, List.take_succ_cons, List.take_zero] at t0 t1
    obtain ⟨s0, e0, g0⟩ := opens_slice (k := 2) (f := Lbl.cells) Try.underlying42 (by kernel_rfl) (by decide) (fun _ => rfl) opens_lbl _ _ _ t0 f0
    obtain ⟨m, z0, z1, z2, ⟨r0, q0⟩, ⟨r1, q1⟩, ⟨r2, q2⟩⟩ := open_arr3 Try.underlying121 (by kernel_rfl) t1 f1
    obtain ⟨s1, e1, g1⟩ := opens_slice (k := 2) (f := Spn.cells) Try.underlying120 (by kernel_rfl) (by decide) (fun _ => rfl) opens_spn _ _ _ r0 q0
    obtain ⟨s2, e2, g2⟩ := opens_slice (k := 2) (f := Spn.cells) Try.underlying120 (by kernel_rfl) (by decide) (fun _ => rfl) opens_spn _ _ _ r1 q1
    obtain ⟨s3, e3, g3⟩ := opens_slice (k := 2) (f := Spn.cells) Try.underlying120 (by kernel_rfl) (by decide) (fun _ => rfl) opens_spn _ _ _ r2 q2
    simp only [List.cons.injEq, and_true] at e0 e1 e2 e3
    subst e0 e1 e2 e3
    exact ⟨⟨s0, s1, s2, s3⟩, rfl, ⟨g0.1, g1.1, g2.1, g3.1⟩, ⟨g0.2.2.1, g1.2.2.1, g2.2.2.1, g3.2.2.1⟩⟩
end
end Go.Proofs.Ytohocdbneopooaa
