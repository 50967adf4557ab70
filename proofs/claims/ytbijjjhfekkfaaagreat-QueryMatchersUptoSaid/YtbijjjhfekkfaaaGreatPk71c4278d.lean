/- merge.kept, whatever predicates: what it returns. Condition: the predicates have contracts, the list is within the reach. merge.Clip: what it returns. Condition: the list is within the reach. -/
import Derived.Test.YtbijjjhfekkfaaaGreatPk741c0c2c
namespace Go.Proofs.YtbijjjhfekkfaaaGreat
set_option maxRecDepth 100000
open Go.RowKit Go.Shelf

/-- what is kept of a series -/
def keptOf (ps : Ser → Smp → Bool) (pw : Ser → Win → Bool) (x : Ser) : SK := (x.lab.l, x.smp.l.filter (ps x), x.win.l.filter (pw x))
def keptAll (ps : Ser → Smp → Bool) (pw : Ser → Win → Bool) (l : List Ser) : List SK := fulls (l.map (keptOf ps pw))
theorem kept_snoc (ps : Ser → Smp → Bool) (pw : Ser → Win → Bool) (l : List Ser) (x : Ser) : keptAll ps pw (l ++ [x]) = keptAll ps pw l ++ if x.smp.l.filter (ps x) = [] ∧ x.win.l.filter (pw x) = [] then [] else [keptOf ps pw x] := by
  unfold keptAll
  rw [List.map_append, List.map_singleton, fulls_snoc]
  rfl
theorem filter_snoc {α : Type} (p : α → Bool) (l : List α) (x : α) : (l ++ [x]).filter p = if p x = true then l.filter p ++ [x] else l.filter p := by
  rw [List.filter_append]
  by_cases h : p x = true <;> simp [h]

theorem own_put {w : World} {base : Nat} {e : TypeId} {size n Z : Nat} {v : Value} {xs : List Value} (h : w.ownsRow base e size v n xs) (hz : Z < base) (i : Nat) (u : Value) : (w.setCell ⟨Z, i, none⟩ u).ownsRow base e size v n xs :=
  h.kept (gb_put (gb_refl w _) i u) (by
    cases hv : v.ownBlock with
    | none => exact .inl rfl
    | some q => exact .inr fun e => by injection e with e; have := (h.lt q hv).1; omega)
theorem some2_any (x : Ser) (w : World) (hn : x.smp.n + x.win.n ≤ 17592186044416) : Calls Tryz.prog 76 #[.agg #[.slice x.lab.A x.lab.n x.lab.c, .slice x.smp.A x.smp.n x.smp.c, .slice x.win.A x.win.n x.win.c]] w fun e w' => e = .returned (.bool (full x)) ∧ Below w.heap.size w w' := by
  go_enter Tryz.func76, Tryz.ntmps76
  go_wp2_with fail
  go_ret
  refine ⟨?_, (Below.refl _ _).alloc (Nat.le_refl _) _⟩
  refine ret_bool ?_
  unfold full
  have h : (0 : Int) < (x.smp.n : Int) + (x.win.n : Int) ↔ 0 < x.smp.n + x.win.n := by omega
  exact decide_eq_decide.2 h
/-- what is asked of the predicates -/
def KPredS (H : Nat) (w : World) (f : FuncId) (cb : Array Value) (ps : Ser → Smp → Bool) (ss : List Ser) : Prop :=
  ∀ x ∈ ss, ∀ y ∈ x.smp.l, ∀ W, Below H w W → Calls Tryz.prog f (#[.agg #[.slice x.lab.A x.lab.n x.lab.c, .slice x.smp.A x.smp.n x.smp.c, .slice x.win.A x.win.n x.win.c], .agg #[.int .i64 y.t, .int .u64 ((y.v : Nat) : Int)]] ++ cb) W fun e W' => e = .returned (.bool (ps x y)) ∧ Below W.heap.size W W'
def KPredW (H : Nat) (w : World) (f : FuncId) (cb : Array Value) (pw : Ser → Win → Bool) (ss : List Ser) : Prop :=
  ∀ x ∈ ss, ∀ y ∈ x.win.l, ∀ W, Below H w W → Calls Tryz.prog f (#[.agg #[.slice x.lab.A x.lab.n x.lab.c, .slice x.smp.A x.smp.n x.smp.c, .slice x.win.A x.win.n x.win.c], .agg #[.int .i64 y.start, .int .i64 y.count, .int .u64 ((y.sum : Nat) : Int), .int .u64 ((y.min : Nat) : Int), .int .u64 ((y.max : Nat) : Int), .int .u64 ((y.last : Nat) : Int)]] ++ cb) W fun e W' => e = .returned (.bool (pw x y)) ∧ Below W.heap.size W W'

/-- a full one, with rows of its own, appended -/
theorem MOut.add {w w' : World} {base B : Nat} {v v' : Value} {L : List Ser} {y : Ser} (h : MOut w base v L) (hy : SerOwn w base y) (hB : ∀ q, (v.ownBlock = some q ∨ ∃ z ∈ L, z.blk q) → q < B) (hL : ∀ z ∈ L, z.lab.At w B 2 Lbl.cells) (hyb : ∀ q, y.blk q → B ≤ q) (hyl : ∀ j, j < B → y.lab.Off (some j))
    (hg : w.grownBy w' v.ownBlock) (hat : v'.ownBlock = v.ownBlock ∨ ∃ q, v'.ownBlock = some q ∧ w.heap.size ≤ q) (hrow : w'.ownsRow base serT 3 v' (L.length + 1) (serCells (L ++ [y]))) : MOut w' base v' (L ++ [y]) := by
  have hv : ∀ q, v.ownBlock = some q → ¬ y.blk q ∧ y.lab.Off (some q) := fun q hq => ⟨fun hb => by have := hB q (.inl hq); have := hyb q hb; omega, hyl q (hB q (.inl hq))⟩
  have hall : ∀ z ∈ L ++ [y], SerOwn w base z ∧ ∀ q, v.ownBlock = some q → ¬ z.blk q ∧ z.lab.Off (some q) := fun z hz => by
    rcases List.mem_append.1 hz with hz | hz
    · exact ⟨h.own z hz, h.out z hz⟩
    · rw [List.mem_singleton.1 hz]; exact ⟨hy, hv⟩
  refine ⟨by rw [List.length_append]; exact hrow, fun z hz => (hall z hz).1.grown hg (hall z hz).2, fun z hz q hq => ?_, fun i j a b ha hb hij q hq => ?_⟩
  · rcases hat with e | ⟨q2, e, hq2⟩
    · rw [e] at hq
      exact (hall z hz).2 q hq
    · rw [e] at hq
      injection hq with hq
      subst hq
      exact ⟨fun hb => by have := ((hall z hz).1.lt hb).2; omega, (hall z hz).1.lab.off hq2⟩
  · have hbd : ∀ (k : Nat) (z : Ser), (L ++ [y])[k]? = some z → L[k]? = some z ∨ (k = L.length ∧ z = y) := by
      intro k z hz
      rcases Nat.lt_or_ge k L.length with hk | hk
      · rw [List.getElem?_append_left hk] at hz
        exact .inl hz
      · have := (List.getElem?_eq_some_iff.1 hz).1
        rw [List.length_append, List.length_singleton] at this
        rw [List.getElem?_append_right (by omega)] at hz
        exact .inr ⟨by omega, List.mem_singleton.1 (List.mem_of_getElem? hz)⟩
    rcases hbd i a ha with ha' | ⟨hi, rfl⟩
    · rcases hbd j b hb with hb' | ⟨_, rfl⟩
      · exact h.sep i j a b ha' hb' hij q hq
      · have := hB q (.inr ⟨a, List.mem_of_getElem? ha', hq⟩)
        exact ⟨fun hb2 => by have := hyb q hb2; omega, hyl q this⟩
    · rcases hbd j b hb with hb' | ⟨hj, _⟩
      · have h1 := hyb q hq
        have hbm := List.mem_of_getElem? hb'
        exact ⟨fun hb2 => by have := hB q (.inr ⟨b, hbm, hb2⟩); omega, (hL b hbm).off h1⟩
      · omega

def KeptRes (w : World) (K : List SK) (e : Ending) (w' : World) : Prop :=
  ∃ (v : Value) (L : List Ser), e = .returned v ∧ MOut w' w.heap.size v L ∧ L.map Ser.sk = K ∧ Below w.heap.size w w' ∧ (∀ y ∈ L, y.Fit)
/-- the state between two series -/
structure KSt (w wr : World) (v : Value) (L : List Ser) (K : List SK) : Prop where
  out : MOut wr w.heap.size v L
  tells : L.map Ser.sk = K
  below : Below w.heap.size w wr
  small : ∀ y ∈ L, y.Fit
theorem KSt.nil (w : World) : KSt w w (.slice none 0 0) [] [] := ⟨MOut.nil _ _, rfl, Below.refl _ _, by simp⟩

theorem KSt.on {w wr wx : World} {v : Value} {L : List Ser} {K : List SK} (h : KSt w wr v L K) (hb : Below wr.heap.size wr wx) : KSt w wx v L K :=
  ⟨h.out.below hb, h.tells, h.below.trans (hb.mono h.below.size), h.small⟩

set_option maxHeartbeats 12800000 in
theorem kept_any (A : Option Addr) (n c : Nat) (ss : List Ser) (f g : FuncId) (cf cg : Array Value) (ps : Ser → Smp → Bool) (pw : Ser → Win → Bool) (w : World) (ef : ∀ args w, (callFunc f args).run Tryz.prog w = .ok (.enter f args) w) (eg : ∀ args w, (callFunc g args).run Tryz.prog w = .ok (.enter g args) w)
    (hr : Row w w.heap.size 3 A n (serCells ss)) (hl : ss.length = n) (hat : ∀ x ∈ ss, x.At w w.heap.size) (hs : ∀ x ∈ ss, x.Fit) (hn : n * 72 ≤ 140737488351232) (hps : KPredS w.heap.size w f cf ps ss) (hpw : KPredW w.heap.size w g cg pw ss) :
    Calls Tryz.prog 200 #[.slice A n c, .func (.func f) #[] cf, .func (.func g) #[] cg] w (KeptRes w (keptAll ps pw ss)) := by
  obtain ⟨i0, hi, hz0, hz1, hz2⟩ := info_parts info_ser
  obtain ⟨iS, hiS, hzS0, hzS1, hzS2⟩ := info_parts info_smp
  obtain ⟨iW, hiW, hzW0, hzW1, hzW2⟩ := info_parts info_win
  have HR := hidden hr
  have HL := hidden hl
  have HAT := hidden hat
  have HSS := hidden hs
  have hn' : n ≤ 1954687338211 := by omega
  have HPS := hidden hps
  have HPW := hidden hpw
  clear hr hl hat hs hps hpw
  go_enter Tryz.func200, Tryz.ntmps200
  go_wp2_with fail
  go_loopw [7, 17] (fun vo vi wr => ∃ (k : Nat) (v : Value) (L : List Ser), vo = v ∧ vi = .int .i64 k ∧ k ≤ n ∧ L.length ≤ k ∧ Hid (KSt w wr v L (keptAll ps pw (ss.take k)))) (fun _ vi _ => n - (intOf vi).toNat)
  case atStart => exact ⟨0, _, [], rfl, rfl, Nat.zero_le _, Nat.le_refl _, hidden (KSt.nil w)⟩
  case round =>
    obtain ⟨k, v, L, rfl, rfl, hk, hLk, hst⟩ := hrel
    by_cases hlt : k < n
    · obtain ⟨gs, o, hA, hgs, x, hx, d0, d1, d2⟩ := ser_cells_at HR.out HL.out hst.out.below k hlt
      subst hA
      simp only [Sl.val] at d0 d1 d2
      obtain ⟨sA, hsA⟩ : ∃ sA, x.smp.A = sA := ⟨_, rfl⟩
      obtain ⟨wA, hwA⟩ : ∃ wA, x.win.A = wA := ⟨_, rfl⟩
      rw [hsA] at d1
      rw [hwA] at d2
      have HsA := hidden hsA
      have HwA := hidden hwA
      clear hsA hwA
      have hxm := List.mem_of_getElem? hx
      have HXA := hidden (HAT.out x hxm)
      obtain ⟨hxl, hxs, hxw⟩ := HSS.out x hxm
      simp only [reachBytes] at hxl hxs hxw
      have hxs' : x.smp.n ≤ 8796093021952 := by omega
      have hxw' : x.win.n ≤ 2932031007317 := by omega
      have HTK : Hid (ss.take (k + 1) = ss.take k ++ [x]) := hidden (take_snoc? hx)
      have HX := hidden hx
      have b1 : (k : Int) < (n : Int) := by omega
      have b2 : (0 : Int) ≤ (k : Int) := by omega
      clear hx hxm hgs
      go_upto_region 5 with (fail)
      have hX := Whole1.new wr 57 #[.slice x.lab.A x.lab.n x.lab.c, .slice sA x.smp.n x.smp.c, .slice wA x.win.n x.win.c]
      have hbX : Below wr.heap.size wr (wr.alloc (.cells #[.slice x.lab.A x.lab.n x.lab.c, .slice sA x.smp.n x.smp.c, .slice wA x.win.n x.win.c] 57)) := (Below.refl _ _).alloc (Nat.le_refl _) _
      generalize wr.alloc (.cells #[.slice x.lab.A x.lab.n x.lab.c, .slice sA x.smp.n x.smp.c, .slice wA x.win.n x.win.c] 57) = wX at hX hbX ⊢
      obtain ⟨X, hXe⟩ : ∃ X, wr.heap.size = X := ⟨_, rfl⟩
      rw [hXe] at hX hbX ⊢
      have HXE := hidden hXe
      have HXX := hidden hX
      have HBX := hidden hbX
      have hXl := hX.lt
      have hwX : w.heap.size ≤ X := by rw [← hXe]; exact hst.out.below.size
      have x0 := hX.cell 0
      have HMX : Hid (Below w.heap.size w wX) := hidden (hst.out.below.trans (hbX.mono (by omega)))
      have hrl : x.lab.At wX w.heap.size 2 Lbl.cells := HXA.out.lab.below HMX.out
      have hlx : x.lab.l.length = x.lab.n := hrl.2.1
      have S1 := hidden (cloneLO_any x.lab.A x.lab.n x.lab.c x.lab.l wX (hrl.2.2.more (by omega)) hlx (by omega))
      clear hX hbX hXe hrl hlx d0 d1 d2
      go_wp2_with fail
      refine S1.out.mono ?_
      rintro e w6 ⟨⟨A6, n6, c6, l6⟩, rfl, hl6, hn6, hsa, hso, hb6, hlo6⟩
      simp only at hl6 hn6
      subst hl6 hn6
      simp only [Sl.val] at hsa hlo6 ⊢
      go_upto_region 6 with (fail)
      have hZ := Whole1.new w6 57 #[.slice A6 x.lab.n c6, .slice none 0 0, .slice none 0 0]
      have hbZ : Below w6.heap.size w6 (w6.alloc (.cells #[.slice A6 x.lab.n c6, .slice none 0 0, .slice none 0 0] 57)) := (Below.refl _ _).alloc (Nat.le_refl _) _
      have hzs : (w6.alloc (.cells #[.slice A6 x.lab.n c6, .slice none 0 0, .slice none 0 0] 57)).heap.size = w6.heap.size + 1 := World.size_alloc _ _
      generalize w6.alloc (.cells #[.slice A6 x.lab.n c6, .slice none 0 0, .slice none 0 0] 57) = wZ at hZ hbZ hzs ⊢
      obtain ⟨Z, hZe⟩ : ∃ Z, w6.heap.size = Z := ⟨_, rfl⟩
      rw [hZe] at hZ hbZ hzs hsa ⊢
      have h6 := hb6.size
      have hXZ : X < Z := by omega
      -- the labels, and what was there before
      have HLB := hidden (And.intro (hsa.below hbZ) (And.intro (fun j hj => hso j (by omega) : ∀ j, j < X → (Sl.mk A6 x.lab.n c6 x.lab.l).Off (some j)) (fun h => own_below (own_more (hlo6 h) (by omega : w.heap.size ≤ wX.heap.size)) hbZ (by omega) : 0 < x.lab.n → wZ.ownsRow w.heap.size lblT 2 (.slice A6 x.lab.n c6) x.lab.n (lblCells x.lab.l))))
      have HBZ : Hid (Below wX.heap.size wX wZ) := hidden (hb6.trans (hbZ.mono (by omega)))
      have HX2 := hidden (HXX.out.below HBZ.out hXl)
      have HZS := hidden hzs
      have HZE := hidden hZe
      have HZZ := hidden hZ
      clear hsa hso hlo6 hbZ hZ hzs hZe S1 x0 hb6 h6
      have x1 := HX2.out.cell 1
      go_wp2_with fail
      go_loopw [28] (fun vj wx => ∃ (j n7 c7 : Nat) (A7 : Option Addr) (l7 : List Smp), vj = .int .i64 j ∧ j ≤ x.smp.n ∧ Hid (l7 = (x.smp.l.take j).filter (ps x)) ∧ l7.length = n7 ∧ n7 ≤ j ∧ Hid (Whole1 wx Z 57 #[.slice A6 x.lab.n c6, .slice A7 n7 c7, .slice none 0 0]) ∧ Hid (wx.ownsRow wZ.heap.size smpT 2 (.slice A7 n7 c7) n7 (l7.flatMap Smp.cells)) ∧ Hid (wZ.grownBy wx (some Z))) (fun vj _ => x.smp.n - (intOf vj).toNat)
      case atStart => exact ⟨0, 0, 0, none, [], rfl, Nat.zero_le _, hidden rfl, rfl, Nat.le_refl _, HZZ, hidden (World.ownsRow_nil _ _ _ _), hidden (gb_refl _ _)⟩
      case round =>
        obtain ⟨j, n7, c7, A7, l7, rfl, hj, hl7, hn7, hnj, hZ, ho7, hg7⟩ := hrel
        by_cases hjs : j < x.smp.n
        · have hbw : Below w.heap.size w wr := (HMX.out.trans (HBZ.out.mono HMX.out.size)).grown hg7.out (by have := HBZ.out.size; have := HMX.out.size; omega) (fun q hq => by injection hq with hq; omega)
          obtain ⟨gy, oy, z, hAy, hgy, hz, hcy⟩ := row_at (enc := Smp.cells) (k := 2) (fun _ => rfl) ((HXA.out.smp.below hbw).2.2) HXA.out.smp.2.1 j hjs
          rw [HsA.out] at hAy
          subst hAy
          have u0 : wr.cell? ⟨gy, oy + j * 2, none⟩ = some (.int .i64 z.t) := hcy 0 (by omega)
          have u1 : wr.cell? ⟨gy, oy + j * 2 + 1, none⟩ = some (.int .u64 z.v) := hcy 1 (by omega)
          have HTJ : Hid (x.smp.l.take (j + 1) = x.smp.l.take j ++ [z]) := hidden (take_snoc? hz)
          have hX7 := HX2.out.grown hg7.out (fun e => by injection e with e; omega)
          have HZ := hidden hz
          have HBW := hidden hbw
          have HX7 := hidden hX7
          have c1 : (j : Int) < (x.smp.n : Int) := by omega
          have c2 : (0 : Int) ≤ (j : Int) := by omega
          have hmj : x.smp.n - (j + 1) < x.smp.n - j := by omega
          clear hz hcy hbw hX7
          go_upto_region 9 with (fail)
          have hY := Whole1.new wr 112 #[.int .i64 z.t, .int .u64 (z.v : Nat)]
          have hbY : Below wr.heap.size wr (wr.alloc (.cells #[.int .i64 z.t, .int .u64 (z.v : Nat)] 112)) := (Below.refl _ _).alloc (Nat.le_refl _) _
          generalize wr.alloc (.cells #[.int .i64 z.t, .int .u64 (z.v : Nat)] 112) = wY at hY hbY ⊢
          obtain ⟨Y, hYe⟩ : ∃ Y, wr.heap.size = Y := ⟨_, rfl⟩
          rw [hYe] at hY hbY ⊢
          have hZl := hZ.out.lt
          have hXl7 := HX7.out.lt
          have hwl := HBW.out.size
          rw [hYe] at hZl hXl7 hwl
          have HZY := hidden (hZ.out.below hbY (by omega))
          have hXY := HX7.out.below hbY (by omega)
          have HXY := hidden hXY
          have HOY := hidden (own_below ho7.out hbY (by omega))
          have HGY := hidden (gb_trans hg7.out (gb_below (by rw [hYe]; exact hbY) (some Z)))
          have HBY : Hid (Below w.heap.size w wY) := hidden (HBW.out.trans (hbY.mono (by omega)))
          have hYl := hY.lt
          have HYY := hidden hY
          have x0 := hXY.cell 0
          have x1 := hXY.cell 1
          have x2 := hXY.cell 2
          have y0 := hY.cell 0
          have y1 := hY.cell 1
          have S9 := HPS.out x (List.mem_of_getElem? HX.out) z (List.mem_of_getElem? HZ.out) wY HBY.out
          rw [HsA.out, HwA.out] at S9
          have S9h := hidden S9
          clear S9
          clear hY hbY hXY hYe hZ ho7 hg7 HX7 HBW u0 u1
          go_wp2_with fail
          refine S9h.out.mono ?_
          rintro e w9 ⟨rfl, hb9⟩
          have hyl9 := hb9.size
          have HZ9 := hidden (HZY.out.below hb9 (by omega))
          have hY9 := HYY.out.below hb9 hYl
          have HO9 := hidden (own_below HOY.out hb9 (Nat.le_refl _))
          have HG9 := hidden (gb_trans HGY.out (gb_below hb9 (some Z)))
          have HX9 := hidden (HXY.out.below hb9 (by omega))
          clear S9h HZY HOY HGY HBY hb9 x0 x1 x2 y0 y1
          obtain ⟨b, hv⟩ : ∃ b, ps x z = b := ⟨_, rfl⟩
          rw [hv]
          have HV := hidden hv
          clear hv
          cases b with
          | false =>
            go_wp2_with fail
            go_roundw
            case rel => exact ⟨j + 1, n7, c7, A7, l7, by go_num, hjs, hidden (by rw [HTJ.out, filter_snoc, HV.out, if_neg (by decide)]; exact hl7.out), hn7, by omega, HZ9, HO9, HG9⟩
            case measure => simp [intOf]; omega
          | true =>
            have z1 := HZ9.out.cell 1
            have y0 := hY9.cell 0
            have y1 := hY9.cell 1
            have hfr := Row.fresh w9 112 2 1 [.int .i64 z.t, .int .u64 (z.v : Nat)] rfl
            have hzz := HZS.out
            have hgs9 := HG9.out.size
            go_wp2_with (at_builtin; refine wpList_app _ rfl _ _ 54 rfl wZ.heap.size 112 iS _ 2 16 Tryz.underlying54 hiS hzS0 hzS1 hzS2 rfl (by decide) _ _ _ rfl (HO9.out.alloc _) _ _ _ _ _ rfl hfr (smpCells_one [z]) (by unfold maxLen; omega) (by omega) (by simp; omega) ?_; intro v10 w10 hown10 hg10 hat10; obtain ⟨A10, c10, rfl, hc10, hr10⟩ := own_shape hown10; have hZ10 := (HZ9.out.alloc (.cells #[.int .i64 z.t, .int .u64 (z.v : Nat)] 112)).grown hg10 (own_ne HO9.out (by omega)); have q1 := hZ10.cell 1; have f1 := hZ10.free 1)
            go_roundw
            case rel =>
              refine ⟨j + 1, n7 + 1, c10, A10, l7 ++ [z], by go_num, hjs, hidden (by rw [HTJ.out, filter_snoc, HV.out, if_pos rfl, hl7.out]), by rw [List.length_append, hn7]; rfl, by omega, hidden (hZ10.put 1 _), hidden (own_put (by rw [List.flatMap_append]; exact hown10) (by omega) 1 _), hidden (gb_put (gb_far (gb_alloc HG9.out _) hg10 (fun q hq => (HO9.out.lt q hq).1)) _ _)⟩
            case measure => simp [intOf]; omega
        · obtain rfl : j = x.smp.n := by omega
          obtain ⟨wC, rfl⟩ : ∃ wC : World, wC = wr := ⟨_, rfl⟩
          have HL7 : Hid (l7 = x.smp.l.filter (ps x)) := hidden (by
            have := hl7.out
            rwa [List.take_of_length_le (by rw [HXA.out.smp.2.1]; exact Nat.le_refl _)] at this)
          have HXC := hidden (HX2.out.grown hg7.out (fun e => by injection e with e; omega))
          have HZC := hZ
          have HBC : Hid (Below w.heap.size w wC) := hidden ((HMX.out.trans (HBZ.out.mono HMX.out.size)).grown hg7.out (by have := HBZ.out.size; have := HMX.out.size; omega) (fun q hq => by injection hq with hq; omega))
          have hCs := hg7.out.size
          have hzz := HZS.out
          have hCl := HBC.out.size
          have x2 := HXC.out.cell 2
          clear hl7 x1
          go_wp2_with fail
          go_loopw [46] (fun vj wx => ∃ (j n8 c8 : Nat) (A8 : Option Addr) (l8 : List Win), vj = .int .i64 j ∧ j ≤ x.win.n ∧ Hid (l8 = (x.win.l.take j).filter (pw x)) ∧ l8.length = n8 ∧ n8 ≤ j ∧ Hid (Whole1 wx Z 57 #[.slice A6 x.lab.n c6, .slice A7 n7 c7, .slice A8 n8 c8]) ∧ Hid (wx.ownsRow wC.heap.size winT 6 (.slice A8 n8 c8) n8 (l8.flatMap Win.cells)) ∧ Hid (wC.grownBy wx (some Z))) (fun vj _ => x.win.n - (intOf vj).toNat)
          case atStart => exact ⟨0, 0, 0, none, [], rfl, Nat.zero_le _, hidden rfl, rfl, Nat.le_refl _, HZC, hidden (World.ownsRow_nil _ _ _ _), hidden (gb_refl _ _)⟩
          case round =>
            obtain ⟨j, n8, c8, A8, l8, rfl, hj, hl8, hn8, hnj, hZ, ho8, hg8⟩ := hrel
            by_cases hjs : j < x.win.n
            · have hbw : Below w.heap.size w wr := HBC.out.grown hg8.out HBC.out.size (fun q hq => by injection hq with hq; omega)
              obtain ⟨gy, oy, z, hAy, hgy, hz, hcy⟩ := row_at (enc := Win.cells) (k := 6) (fun _ => rfl) ((HXA.out.win.below hbw).2.2) HXA.out.win.2.1 j hjs
              rw [HwA.out] at hAy
              subst hAy
              have u0 : wr.cell? ⟨gy, oy + j * 6, none⟩ = some (.int .i64 z.start) := hcy 0 (by omega)
              have u1 : wr.cell? ⟨gy, oy + j * 6 + 1, none⟩ = some (.int .i64 z.count) := hcy 1 (by omega)
              have u2 : wr.cell? ⟨gy, oy + j * 6 + 2, none⟩ = some (.int .u64 z.sum) := hcy 2 (by omega)
              have u3 : wr.cell? ⟨gy, oy + j * 6 + 3, none⟩ = some (.int .u64 z.min) := hcy 3 (by omega)
              have u4 : wr.cell? ⟨gy, oy + j * 6 + 4, none⟩ = some (.int .u64 z.max) := hcy 4 (by omega)
              have u5 : wr.cell? ⟨gy, oy + j * 6 + 5, none⟩ = some (.int .u64 z.last) := hcy 5 (by omega)
              have HTJ : Hid (x.win.l.take (j + 1) = x.win.l.take j ++ [z]) := hidden (take_snoc? hz)
              have hX7 := HXC.out.grown hg8.out (fun e => by injection e with e; omega)
              have HZ := hidden hz
              have HBW := hidden hbw
              have HX7 := hidden hX7
              have c1 : (j : Int) < (x.win.n : Int) := by omega
              have c2 : (0 : Int) ≤ (j : Int) := by omega
              have hmj : x.win.n - (j + 1) < x.win.n - j := by omega
              clear hz hcy hbw hX7
              go_upto_region 15 with (fail)
              have hY := Whole1.new wr 159 #[.int .i64 z.start, .int .i64 z.count, .int .u64 (z.sum : Nat), .int .u64 (z.min : Nat), .int .u64 (z.max : Nat), .int .u64 (z.last : Nat)]
              have hbY : Below wr.heap.size wr (wr.alloc (.cells #[.int .i64 z.start, .int .i64 z.count, .int .u64 (z.sum : Nat), .int .u64 (z.min : Nat), .int .u64 (z.max : Nat), .int .u64 (z.last : Nat)] 159)) := (Below.refl _ _).alloc (Nat.le_refl _) _
              generalize wr.alloc (.cells #[.int .i64 z.start, .int .i64 z.count, .int .u64 (z.sum : Nat), .int .u64 (z.min : Nat), .int .u64 (z.max : Nat), .int .u64 (z.last : Nat)] 159) = wY at hY hbY ⊢
              obtain ⟨Y, hYe⟩ : ∃ Y, wr.heap.size = Y := ⟨_, rfl⟩
              rw [hYe] at hY hbY ⊢
              have hZl := hZ.out.lt
              have hXl8 := HX7.out.lt
              have hwl := HBW.out.size
              rw [hYe] at hZl hXl8 hwl
              have HZY := hidden (hZ.out.below hbY (by omega))
              have hXY := HX7.out.below hbY (by omega)
              have HXY := hidden hXY
              have HOY := hidden (own_below ho8.out hbY (by omega))
              have HGY := hidden (gb_trans hg8.out (gb_below (by rw [hYe]; exact hbY) (some Z)))
              have HBY : Hid (Below w.heap.size w wY) := hidden (HBW.out.trans (hbY.mono (by omega)))
              have hYl := hY.lt
              have HYY := hidden hY
              have x0 := hXY.cell 0
              have x1 := hXY.cell 1
              have x2 := hXY.cell 2
              have y0 := hY.cell 0
              have y1 := hY.cell 1
              have y2 := hY.cell 2
              have y3 := hY.cell 3
              have y4 := hY.cell 4
              have y5 := hY.cell 5
              have S9 := HPW.out x (List.mem_of_getElem? HX.out) z (List.mem_of_getElem? HZ.out) wY HBY.out
              rw [HsA.out, HwA.out] at S9
              have S9h := hidden S9
              clear S9
              clear hY hbY hXY hYe hZ ho8 hg8 HX7 HBW u0 u1 u2 u3 u4 u5
              go_wp2_with fail
              refine S9h.out.mono ?_
              rintro e w9 ⟨rfl, hb9⟩
              have hyl9 := hb9.size
              have HZ9 := hidden (HZY.out.below hb9 (by omega))
              have hY9 := HYY.out.below hb9 hYl
              have HO9 := hidden (own_below HOY.out hb9 (Nat.le_refl _))
              have HG9 := hidden (gb_trans HGY.out (gb_below hb9 (some Z)))
              have HX9 := hidden (HXY.out.below hb9 (by omega))
              clear S9h HZY HOY HGY HBY hb9 x0 x1 x2 y0 y1 y2 y3 y4 y5
              obtain ⟨b, hv⟩ : ∃ b, pw x z = b := ⟨_, rfl⟩
              rw [hv]
              have HV := hidden hv
              clear hv
              cases b with
              | false =>
                go_wp2_with fail
                go_roundw
                case rel => exact ⟨j + 1, n8, c8, A8, l8, by go_num, hjs, hidden (by rw [HTJ.out, filter_snoc, HV.out, if_neg (by decide)]; exact hl8.out), hn8, by omega, HZ9, HO9, HG9⟩
                case measure => simp [intOf]; omega
              | true =>
                have z1 := HZ9.out.cell 2
                have y0 := hY9.cell 0
                have y1 := hY9.cell 1
                have y2 := hY9.cell 2
                have y3 := hY9.cell 3
                have y4 := hY9.cell 4
                have y5 := hY9.cell 5
                have hfr := Row.fresh w9 159 6 1 [.int .i64 z.start, .int .i64 z.count, .int .u64 (z.sum : Nat), .int .u64 (z.min : Nat), .int .u64 (z.max : Nat), .int .u64 (z.last : Nat)] rfl
                have hgs9 := HG9.out.size
                go_wp2_with (at_builtin; refine wpList_app _ rfl _ _ 55 rfl wC.heap.size 159 iW _ 6 48 Tryz.underlying55 hiW hzW0 hzW1 hzW2 rfl (by decide) _ _ _ rfl (HO9.out.alloc _) _ _ _ _ _ rfl hfr (winCells_one [z]) (by unfold maxLen; omega) (by omega) (by simp; omega) ?_; intro v10 w10 hown10 hg10 hat10; obtain ⟨A10, c10, rfl, hc10, hr10⟩ := own_shape hown10; have hZ10 := (HZ9.out.alloc (.cells #[.int .i64 z.start, .int .i64 z.count, .int .u64 (z.sum : Nat), .int .u64 (z.min : Nat), .int .u64 (z.max : Nat), .int .u64 (z.last : Nat)] 159)).grown hg10 (own_ne HO9.out (by omega)); have q1 := hZ10.cell 2; have f1 := hZ10.free 2)
                go_roundw
                case rel =>
                  refine ⟨j + 1, n8 + 1, c10, A10, l8 ++ [z], by go_num, hjs, hidden (by rw [HTJ.out, filter_snoc, HV.out, if_pos rfl, hl8.out]), by rw [List.length_append, hn8]; rfl, by omega, hidden (hZ10.put 2 _), hidden (own_put (by rw [List.flatMap_append]; exact hown10) (by omega) 2 _), hidden (gb_put (gb_far (gb_alloc HG9.out _) hg10 (fun q hq => (HO9.out.lt q hq).1)) _ _)⟩
                case measure => simp [intOf]; omega
            · obtain rfl : j = x.win.n := by omega
              obtain ⟨wD, rfl⟩ : ∃ wD : World, wD = wr := ⟨_, rfl⟩
              have HL8 : Hid (l8 = x.win.l.filter (pw x)) := hidden (by
                have := hl8.out
                rwa [List.take_of_length_le (by rw [HXA.out.win.2.1]; exact Nat.le_refl _)] at this)
              have hCD := hg8.out.size
              have HBD : Hid (Below w.heap.size w wD) := hidden (HBC.out.grown hg8.out HBC.out.size (fun q hq => by injection hq with hq; omega))
              -- the series, as it lies
              have HYO : Hid (SerOwn wD w.heap.size ⟨⟨A6, x.lab.n, c6, x.lab.l⟩, ⟨A7, n7, c7, l7⟩, ⟨A8, n8, c8, l8⟩⟩) := hidden (by
                obtain ⟨hla, hlo, hlw⟩ := HLB.out
                have hgD : wZ.grownBy wD (some Z) := gb_trans hg7.out hg8.out
                have hoffZ : (Sl.mk A6 x.lab.n c6 x.lab.l).Off (some Z) := hla.off (Nat.le_refl _)
                have hlow : ∀ q, Z ≤ q → (Sl.mk A6 x.lab.n c6 x.lab.l).Off (some q) := fun q hq => hla.off hq
                refine ⟨(hla.grown hgD hoffZ (by omega)).more (by have := hgD.size; omega), ?_, own_more ho8.out (by omega), ⟨hn7, hn8⟩, ?_, ?_, fun hn => (hlw hn).kept hgD (Sl.off_block hoffZ hn)⟩
                · refine own_more (ho7.out.kept hg8.out ?_) (by omega)
                  cases hv : (Value.slice A7 n7 c7).ownBlock with
                  | none => exact .inl rfl
                  | some q => exact .inr fun e => by injection e with e; have := (ho7.out.lt q hv).1; omega
                · intro q h1 h2
                  have := (ho7.out.lt q h1).2
                  have := (ho8.out.lt q h2).1
                  omega
                · rintro q (hq | hq)
                  · exact hlow q (by have := (ho7.out.lt q hq).1; omega)
                  · exact hlow q (by have := (ho8.out.lt q hq).1; omega))
              have HYB : Hid (∀ q, (⟨⟨A6, x.lab.n, c6, x.lab.l⟩, ⟨A7, n7, c7, l7⟩, ⟨A8, n8, c8, l8⟩⟩ : Ser).blk q → X ≤ q) := hidden (by
                rintro q (hq | hq)
                · have := (ho7.out.lt q hq).1; omega
                · have := (ho8.out.lt q hq).1; omega)
              have z0 := hZ.out.cell 0
              have z1 := hZ.out.cell 1
              have z2 := hZ.out.cell 2
              have HZD := hZ
              have S5 := fun W => some2_any ⟨⟨A6, x.lab.n, c6, x.lab.l⟩, ⟨A7, n7, c7, l7⟩, ⟨A8, n8, c8, l8⟩⟩ W (by show n7 + n8 ≤ _; omega)
              have HST0 := hst
              have HFU : Hid (full ⟨⟨A6, x.lab.n, c6, x.lab.l⟩, ⟨A7, n7, c7, l7⟩, ⟨A8, n8, c8, l8⟩⟩ = !(decide (x.smp.l.filter (ps x) = [] ∧ x.win.l.filter (pw x) = []))) := hidden (by
                rw [← HL7.out, ← HL8.out]
                unfold full
                show decide (0 < n7 + n8) = _
                rw [← hn7, ← hn8]
                cases l7 <;> cases l8 <;> simp <;> omega)
              clear hl8 hst hZ
              go_wp2_with fail
              refine (S5 _).mono ?_
              rintro e w9 ⟨rfl, hb9⟩
              have hgD := gb_trans hg7.out hg8.out
              have hA9 := (((HBX.out.trans (HBZ.out.mono (by omega))).grown hgD (by omega) (fun q hq => by injection hq with hq; omega)).trans (hb9.mono (by omega)))
              have hs9 := hb9.size
              have HM9 := hidden (HST0.out.on (by rw [HXE.out]; exact hA9))
              have HLT := hidden (by have := mout_lt HST0.out.out; rw [HXE.out] at this; exact this : ∀ q, (u7.ownBlock = some q ∨ ∃ z ∈ L, z.blk q) → q < X)
              have HLA : Hid (∀ z ∈ L, z.lab.At w9 X 2 Lbl.cells) := hidden (fun z hz => by
                have := (HST0.out.out.own z hz).lab
                rw [HXE.out] at this
                exact this.below hA9)
              have HY9 := hidden (HYO.out.grown (gb_below hb9 none) (fun q hq => by cases hq))
              have HZ9 := hidden (HZD.out.below hb9 (HZD.out.lt))
              clear hb9 hgD hA9 S5
              obtain ⟨b, hv⟩ : ∃ b, full ⟨⟨A6, x.lab.n, c6, x.lab.l⟩, ⟨A7, n7, c7, l7⟩, ⟨A8, n8, c8, l8⟩⟩ = b := ⟨_, rfl⟩
              rw [hv]
              rw [hv] at HFU
              clear hv
              cases b with
              | false =>
                have HFI : Hid (KSt w w9 u7 L (keptAll ps pw (ss.take (k + 1)))) := hidden (by
                  have h1 := HFU.out
                  have h2 : x.smp.l.filter (ps x) = [] ∧ x.win.l.filter (pw x) = [] := by simpa using h1
                  rw [HTK.out, kept_snoc, if_pos h2, List.append_nil]
                  exact HM9.out)
                clear HFU HM9 HST0
                go_wp2_with fail
                go_roundw
                case rel => exact ⟨k + 1, _, L, rfl, by go_num, by omega, by omega, HFI⟩
                case measure => simp [intOf]; omega
              | true =>
                obtain ⟨A4, c4, rfl, hc4, hr4⟩ := own_shape HM9.out.out.row
                obtain ⟨ll, hll⟩ : ∃ ll, L.length = ll := ⟨_, rfl⟩
                have HRW := hidden HM9.out.out.row
                rw [hll] at hc4 hLk HRW ⊢
                rw [hll] at HM9 HLT
                have HLL := hidden hll
                have z0 := HZ9.out.cell 0
                have z1 := HZ9.out.cell 1
                have z2 := HZ9.out.cell 2
                have hfr := Row.fresh w9 57 3 1 [.slice A6 x.lab.n c6, .slice A7 n7 c7, .slice A8 n8 c8] rfl
                have hws := HM9.out.below.size
                have HHST := HST0
                clear hll hr4 HST0
                go_wp2_with (at_builtin; refine wpList_app _ rfl _ _ 43 rfl w.heap.size 57 i0 _ 3 72 Tryz.underlying43 hi hz0 hz1 hz2 rfl (by decide) _ _ _ rfl (HRW.out.alloc _) _ _ _ _ _ rfl hfr (by simp [Value.oneCell']) (by unfold maxLen; omega) (by omega) (by simp; omega) ?_; intro v10 w10 hown10 hg10 hat10)
                go_roundw
                case rel =>
                  have hbA : Below w9.heap.size w9 (w9.alloc (.cells #[.slice A6 x.lab.n c6, .slice A7 n7 c7, .slice A8 n8 c8] 57)) := (Below.refl _ _).alloc (Nat.le_refl _) _
                  have hadd := (HM9.out.out.below hbA).add (v' := v10) (HY9.out.grown (gb_below hbA none) (fun q hq => by cases hq)) HLT.out (fun z hz => (HLA.out z hz).below (hbA.mono (by omega))) HYB.out HLB.out.2.1 hg10 (hat10.imp id fun h => ⟨_, h, Nat.le_refl _⟩) (by rw [serCells_snoc, HLL.out]; exact hown10)
                  refine ⟨k + 1, _, _, rfl, by go_num, by omega, by rw [List.length_append, HLL.out]; show ll + 1 ≤ _; omega, hidden ⟨hadd, ?_, ?_, ?_⟩⟩
                  · have h1 := HFU.out
                    have h2 : ¬ (x.smp.l.filter (ps x) = [] ∧ x.win.l.filter (pw x) = []) := fun h => by rw [decide_eq_true h] at h1; cases h1
                    rw [HTK.out, kept_snoc, if_neg h2, List.map_append, HM9.out.tells]
                    unfold keptOf
                    rw [← HL7.out, ← HL8.out]
                    rfl
                  · exact (HM9.out.below.trans (hbA.mono hws)).grown hg10 (by have := hbA.size; omega) (fun q hq => (HRW.out.lt q hq).1)
                  · intro y hy
                    rcases List.mem_append.1 hy with hy | hy
                    · exact HM9.out.small y hy
                    · rw [List.mem_singleton.1 hy]
                      exact ⟨by show x.lab.n * 32 ≤ reachBytes; simp only [reachBytes]; omega, by show n7 * 16 ≤ reachBytes; simp only [reachBytes]; omega, by show n8 * 48 ≤ reachBytes; simp only [reachBytes]; omega⟩
                case measure => simp [intOf]; omega
    · obtain rfl : k = n := by omega
      have HF := hst
      clear hst
      go_wp2_with fail
      go_ret
      have := HF.out
      rw [List.take_of_length_le (by rw [HL.out]; exact Nat.le_refl _)] at this
      exact ⟨_, L, rfl, this.out, this.tells, this.below, this.small⟩
end Go.Proofs.YtbijjjhfekkfaaaGreat

namespace Go.Proofs.YtbijjjhfekkfaaaGreat
set_option maxRecDepth 100000
open Go.RowKit Go.Shelf

theorem SerOwn.base {w : World} {base base' : Nat} {y : Ser} (h : SerOwn w base y) (hb : base' ≤ base) : SerOwn w base' y :=
  ⟨h.lab, own_more h.smp hb, own_more h.win hb, h.lens, h.inner, h.self, fun hn => own_more (h.labown hn) hb⟩
theorem MOut.base {w : World} {base base' : Nat} {v : Value} {L : List Ser} (h : MOut w base v L) (hb : base' ≤ base) : MOut w base' v L :=
  ⟨own_more h.row hb, fun y hy => (h.own y hy).base hb, h.out, h.sep⟩
theorem KeptRes.on {w w0 w' : World} {K : List SK} {e : Ending} (h : KeptRes w K e w') (hb : Below w0.heap.size w0 w) : KeptRes w0 K e w' := by
  obtain ⟨v, L, h1, h2, h3, h4, h5⟩ := h
  exact ⟨v, L, h1, h2.base hb.size, h3, hb.trans (h4.mono hb.size), h5⟩

/-- from one time to another -/
def inR (a b t : Int) : Bool := decide (a ≤ t) && decide (t ≤ b)
theorem in_any (a b t : Int) (ga gb : Nat) (W : World) (ha : W.cell? ⟨ga, 0, none⟩ = some (.int .i64 a)) (hb : W.cell? ⟨gb, 0, none⟩ = some (.int .i64 b)) :
    Calls Tryz.prog 199 #[.int .i64 t, .pointer (some ⟨ga, 0, none⟩), .pointer (some ⟨gb, 0, none⟩)] W fun e W' => e = .returned (.bool (inR a b t)) ∧ W = W' := by
  by_cases h1 : a ≤ t
  · by_cases h2 : t ≤ b
    · have h3 : inR a b t = true := by simp [inR, h1, h2]
      rw [h3]
      clear h3
      go_enter Tryz.func199, Tryz.ntmps199
      go_wp2_with fail
      go_ret
      exact ⟨rfl, rfl⟩
    · have h3 : inR a b t = false := by simp [inR, h2]
      rw [h3]
      clear h3
      go_enter Tryz.func199, Tryz.ntmps199
      go_wp2_with fail
      go_ret
      exact ⟨rfl, rfl⟩
  · have h3 : inR a b t = false := by simp [inR, h1]
    rw [h3]
    clear h3
    go_enter Tryz.func199, Tryz.ntmps199
    go_wp2_with fail
    go_ret
    exact ⟨rfl, rfl⟩
set_option maxHeartbeats 800000 in
theorem inS_any (a b : Int) (s0 s1 s2 : Value) (y : Smp) (ga gb gc : Nat) (W : World) (ha : W.cell? ⟨ga, 0, none⟩ = some (.int .i64 a)) (hb : W.cell? ⟨gb, 0, none⟩ = some (.int .i64 b)) (hc : W.cell? ⟨gc, 0, none⟩ = some (.func (.func 199) #[] #[.pointer (some ⟨ga, 0, none⟩), .pointer (some ⟨gb, 0, none⟩)])) :
    Calls Tryz.prog 201 #[.agg #[s0, s1, s2], .agg #[.int .i64 y.t, .int .u64 ((y.v : Nat) : Int)], .pointer (some ⟨gc, 0, none⟩)] W fun e W' => e = .returned (.bool (inR a b y.t)) ∧ Below W.heap.size W W' := by
  have la := World.block_lt_of_cell? W _ ha
  have lb := World.block_lt_of_cell? W _ hb
  have lc := World.block_lt_of_cell? W _ hc
  simp only at la lb lc
  go_enter Tryz.func201, Tryz.ntmps201
  go_upto_region 1 with (fail)
  have hY := Whole1.new (W.alloc (.cells #[s0, s1, s2] 57)) 112 #[.int .i64 y.t, .int .u64 (y.v : Nat)]
  have hB : Below W.heap.size W ((W.alloc (.cells #[s0, s1, s2] 57)).alloc (.cells #[.int .i64 y.t, .int .u64 (y.v : Nat)] 112)) := ((Below.refl _ _).alloc (Nat.le_refl _) _).alloc (by simp) _
  rw [World.size_alloc] at hY
  generalize (W.alloc (.cells #[s0, s1, s2] 57)).alloc (.cells #[.int .i64 y.t, .int .u64 (y.v : Nat)] 112) = W2 at hY hB ⊢
  have ha2 := (hB.cell (p := ⟨ga, 0, none⟩) la).trans ha
  have hb2 := (hB.cell (p := ⟨gb, 0, none⟩) lb).trans hb
  have hc2 := (hB.cell (p := ⟨gc, 0, none⟩) lc).trans hc
  have y0 := hY.cell 0
  have S1 := hidden (in_any a b y.t ga gb W2 ha2 hb2)
  obtain ⟨X, hX⟩ : ∃ X, W.heap.size = X := ⟨_, rfl⟩
  have HB := hidden hB
  rw [hX] at y0 ⊢
  clear hY hX ha hb hc la lb lc ha2 hb2 hB
  go_wp2_with fail
  refine S1.out.mono ?_
  rintro e w' ⟨rfl, rfl⟩
  go_wp2_with fail
  go_ret
  exact ⟨rfl, HB.out⟩
set_option maxHeartbeats 800000 in
theorem inW_any (a b : Int) (s0 s1 s2 : Value) (y : Win) (ga gb gc : Nat) (W : World) (ha : W.cell? ⟨ga, 0, none⟩ = some (.int .i64 a)) (hb : W.cell? ⟨gb, 0, none⟩ = some (.int .i64 b)) (hc : W.cell? ⟨gc, 0, none⟩ = some (.func (.func 199) #[] #[.pointer (some ⟨ga, 0, none⟩), .pointer (some ⟨gb, 0, none⟩)])) :
    Calls Tryz.prog 202 #[.agg #[s0, s1, s2], .agg #[.int .i64 y.start, .int .i64 y.count, .int .u64 ((y.sum : Nat) : Int), .int .u64 ((y.min : Nat) : Int), .int .u64 ((y.max : Nat) : Int), .int .u64 ((y.last : Nat) : Int)], .pointer (some ⟨gc, 0, none⟩)] W fun e W' => e = .returned (.bool (inR a b y.start)) ∧ Below W.heap.size W W' := by
  have la := World.block_lt_of_cell? W _ ha
  have lb := World.block_lt_of_cell? W _ hb
  have lc := World.block_lt_of_cell? W _ hc
  simp only at la lb lc
  go_enter Tryz.func202, Tryz.ntmps202
  go_upto_region 1 with (fail)
  have hY := Whole1.new (W.alloc (.cells #[s0, s1, s2] 57)) 159 #[.int .i64 y.start, .int .i64 y.count, .int .u64 (y.sum : Nat), .int .u64 (y.min : Nat), .int .u64 (y.max : Nat), .int .u64 (y.last : Nat)]
  have hB : Below W.heap.size W ((W.alloc (.cells #[s0, s1, s2] 57)).alloc (.cells #[.int .i64 y.start, .int .i64 y.count, .int .u64 (y.sum : Nat), .int .u64 (y.min : Nat), .int .u64 (y.max : Nat), .int .u64 (y.last : Nat)] 159)) := ((Below.refl _ _).alloc (Nat.le_refl _) _).alloc (by simp) _
  rw [World.size_alloc] at hY
  generalize (W.alloc (.cells #[s0, s1, s2] 57)).alloc (.cells #[.int .i64 y.start, .int .i64 y.count, .int .u64 (y.sum : Nat), .int .u64 (y.min : Nat), .int .u64 (y.max : Nat), .int .u64 (y.last : Nat)] 159) = W2 at hY hB ⊢
  have ha2 := (hB.cell (p := ⟨ga, 0, none⟩) la).trans ha
  have hb2 := (hB.cell (p := ⟨gb, 0, none⟩) lb).trans hb
  have hc2 := (hB.cell (p := ⟨gc, 0, none⟩) lc).trans hc
  have y0 := hY.cell 0
  have S1 := hidden (in_any a b y.start ga gb W2 ha2 hb2)
  obtain ⟨X, hX⟩ : ∃ X, W.heap.size = X := ⟨_, rfl⟩
  have HB := hidden hB
  rw [hX] at y0 ⊢
  clear hY hX ha hb hc la lb lc ha2 hb2 hB
  go_wp2_with fail
  refine S1.out.mono ?_
  rintro e w' ⟨rfl, rfl⟩
  go_wp2_with fail
  go_ret
  exact ⟨rfl, HB.out⟩

def clipAll (a b : Int) (l : List Ser) : List SK := keptAll (fun _ y => inR a b y.t) (fun _ y => inR a b y.start) l
set_option maxHeartbeats 1600000 in
theorem clip_any (A : Option Addr) (n c : Nat) (ss : List Ser) (a b : Int) (w : World) (hr : Row w w.heap.size 3 A n (serCells ss)) (hl : ss.length = n) (hat : ∀ x ∈ ss, x.At w w.heap.size) (hs : ∀ x ∈ ss, x.Fit) (hn : n * 72 ≤ 140737488351232) :
    Calls Tryz.prog 132 #[.slice A n c, .int .i64 a, .int .i64 b] w (KeptRes w (clipAll a b ss)) := by
  have HR := hidden hr
  have HL := hidden hl
  have HAT := hidden hat
  have HS := hidden hs
  clear hr hl hat hs
  have hsf := fun (a : Addr) (c : Array Value) (w : World) => run_store Tryz.prog w a (.func (.func 199) #[] c) .plain rfl
  go_enter Tryz.func132, Tryz.ntmps132
  go_upto_region 2 with (fail)
  have hB : Below w.heap.size w (((w.alloc (.cells #[.int .i64 a] 2)).alloc (.cells #[.int .i64 b] 2)).alloc (.cells #[.func (.func 199) #[] #[.pointer (some ⟨w.heap.size, 0, none⟩), .pointer (some ⟨w.heap.size + 1, 0, none⟩)]] 353)) := (((Below.refl _ _).alloc (Nat.le_refl _) _).alloc (by simp) _).alloc (by simp; omega) _
  have h0 : Whole1 (((w.alloc (.cells #[.int .i64 a] 2)).alloc (.cells #[.int .i64 b] 2)).alloc (.cells #[.func (.func 199) #[] #[.pointer (some ⟨w.heap.size, 0, none⟩), .pointer (some ⟨w.heap.size + 1, 0, none⟩)]] 353)) w.heap.size 2 #[.int .i64 a] := ((Whole1.new w _ _).alloc _).alloc _
  have h1 : Whole1 (((w.alloc (.cells #[.int .i64 a] 2)).alloc (.cells #[.int .i64 b] 2)).alloc (.cells #[.func (.func 199) #[] #[.pointer (some ⟨w.heap.size, 0, none⟩), .pointer (some ⟨w.heap.size + 1, 0, none⟩)]] 353)) (w.heap.size + 1) 2 #[.int .i64 b] := by
    have := (Whole1.new (w.alloc (.cells #[.int .i64 a] 2)) 2 #[.int .i64 b]).alloc (.cells #[.func (.func 199) #[] #[.pointer (some ⟨w.heap.size, 0, none⟩), .pointer (some ⟨w.heap.size + 1, 0, none⟩)]] 353)
    rwa [World.size_alloc] at this
  have h2 : Whole1 (((w.alloc (.cells #[.int .i64 a] 2)).alloc (.cells #[.int .i64 b] 2)).alloc (.cells #[.func (.func 199) #[] #[.pointer (some ⟨w.heap.size, 0, none⟩), .pointer (some ⟨w.heap.size + 1, 0, none⟩)]] 353)) (w.heap.size + 1 + 1) 353 #[.func (.func 199) #[] #[.pointer (some ⟨w.heap.size, 0, none⟩), .pointer (some ⟨w.heap.size + 1, 0, none⟩)]] := by
    have := Whole1.new ((w.alloc (.cells #[.int .i64 a] 2)).alloc (.cells #[.int .i64 b] 2)) 353 #[.func (.func 199) #[] #[.pointer (some ⟨w.heap.size, 0, none⟩), .pointer (some ⟨w.heap.size + 1, 0, none⟩)]]
    rwa [World.size_alloc, World.size_alloc] at this
  generalize ((w.alloc (.cells #[.int .i64 a] 2)).alloc (.cells #[.int .i64 b] 2)).alloc (.cells #[.func (.func 199) #[] #[.pointer (some ⟨w.heap.size, 0, none⟩), .pointer (some ⟨w.heap.size + 1, 0, none⟩)]] 353) = wX at hB h0 h1 h2 ⊢
  have hs := hB.size
  have HB := hidden hB
  have H0 := hidden h0
  have H1 := hidden h1
  have H2 := hidden h2
  have e2 : ∀ args w, (callFunc 201 args).run Tryz.prog w = .ok (.enter 201 args) w := enters_of Tryz.func201 (by kernel_rfl) rfl
  have e3 : ∀ args w, (callFunc 202 args).run Tryz.prog w = .ok (.enter 202 args) w := enters_of Tryz.func202 (by kernel_rfl) rfl
  have S1 := hidden (kept_any A n c ss 201 202 #[.pointer (some ⟨w.heap.size + 1 + 1, 0, none⟩)] #[.pointer (some ⟨w.heap.size + 1 + 1, 0, none⟩)] (fun _ y => inR a b y.t) (fun _ y => inR a b y.start) wX e2 e3 ((HR.out.below hB).more hs) HL.out (fun x hx => ((HAT.out x hx).below hB).more hs) HS.out hn
    (fun x _ y _ W hW => inS_any a b _ _ _ y _ _ _ W (((H0.out.below hW H0.out.lt).cell 0)) (((H1.out.below hW H1.out.lt).cell 0)) (((H2.out.below hW H2.out.lt).cell 0)))
    (fun x _ y _ W hW => inW_any a b _ _ _ y _ _ _ W (((H0.out.below hW H0.out.lt).cell 0)) (((H1.out.below hW H1.out.lt).cell 0)) (((H2.out.below hW H2.out.lt).cell 0))))
  clear hB h0 h1 h2 e2 e3 hsf hs
  go_wp2_with fail
  refine S1.out.mono ?_
  rintro e w9 ⟨v, L, rfl, h1, h2, h3, h4⟩
  have HF := hidden (KeptRes.on (w := wX) ⟨v, L, rfl, h1, h2, h3, h4⟩ HB.out : KeptRes w (clipAll a b ss) (.returned v) w9)
  clear h1 h2 h3 h4 S1
  go_wp2_with fail
  go_ret
  exact HF.out
end Go.Proofs.YtbijjjhfekkfaaaGreat
