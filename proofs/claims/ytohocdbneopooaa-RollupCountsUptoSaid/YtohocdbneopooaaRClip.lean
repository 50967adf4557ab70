/- almanacref21.Clip: what it returns. Condition: the list is within the reach. -/
import Derived.Test.YtohocdbneopooaaKept
import Derived.Deep.RegionLaw
namespace Go.Proofs.Ytohocdbneopooaa.MR
set_option maxRecDepth 100000
open Go.RowKit Go.Shelf

/-- a full one, with rows of its own, appended -/
theorem MOut.add {w w' : World} {base B : Nat} {v v' : Value} {L : List Ser} {y : Ser} (h : MOut w base v L) (hy : SerOwn w base y) (hB : ∀ q, (v.ownBlock = some q ∨ ∃ z ∈ L, z.blk q) → q < B) (hL : ∀ z ∈ L, z.lab.At w base 2 Lbl.cells) (hyb : ∀ q, y.blk q → B ≤ q) (hyl : y.lab.At w base 2 Lbl.cells)
    (hg : w.grownBy w' v.ownBlock) (hat : v'.ownBlock = v.ownBlock ∨ ∃ q, v'.ownBlock = some q ∧ w.heap.size ≤ q) (hrow : w'.ownsRow base serT 3 v' (L.length + 1) (serCells (L ++ [y]))) : MOut w' base v' (L ++ [y]) := by
  have hv : ∀ q, v.ownBlock = some q → ¬ y.blk q ∧ y.lab.Off (some q) := fun q hq => ⟨fun hb => by have := hB q (.inl hq); have := hyb q hb; omega, hyl.off (h.row.lt q hq).1⟩
  have hall : ∀ z ∈ L ++ [y], SerOwn w base z ∧ ∀ q, v.ownBlock = some q → ¬ z.blk q ∧ z.lab.Off (some q) := fun z hz => by
    rcases List.mem_append.1 hz with hz | hz
    · exact ⟨h.own z hz, h.out z hz⟩
    · rw [List.mem_singleton.1 hz]; exact ⟨hy, hv⟩
  refine ⟨by rw [List.length_append]; exact hrow, fun z hz => (hall z hz).1.grown hg (hall z hz).2, fun z hz q hq => ?_, fun i j a b ha hb hij q hq => ?_⟩
  · rcases hat with e | ⟨q2, e, hq2⟩
    · rw [e] at hq
      exact (hall z hz).2 q hq
    · rw [e] at hq
      injection hq with hq
      subst hq
      exact ⟨fun hb => by have := ((hall z hz).1.lt hb).2; omega, (hall z hz).1.lab.off hq2⟩
  · have hbd : ∀ (k : Nat) (z : Ser), (L ++ [y])[k]? = some z → L[k]? = some z ∨ (k = L.length ∧ z = y) := by
      intro k z hz
      rcases Nat.lt_or_ge k L.length with hk | hk
      · rw [List.getElem?_append_left hk] at hz
        exact .inl hz
      · have := (List.getElem?_eq_some_iff.1 hz).1
        rw [List.length_append, List.length_singleton] at this
        rw [List.getElem?_append_right (by omega)] at hz
        exact .inr ⟨by omega, List.mem_singleton.1 (List.mem_of_getElem? hz)⟩
    rcases hbd i a ha with ha' | ⟨hi, rfl⟩
    · rcases hbd j b hb with hb' | ⟨_, rfl⟩
      · exact h.sep i j a b ha' hb' hij q hq
      · have := hB q (.inr ⟨a, List.mem_of_getElem? ha', hq⟩)
        exact ⟨fun hb2 => by have := hyb q hb2; omega, hyl.off ((h.own a (List.mem_of_getElem? ha')).lt hq).1⟩
    · rcases hbd j b hb with hb' | ⟨hj, _⟩
      · have h1 := hyb q hq
        have hbm := List.mem_of_getElem? hb'
        exact ⟨fun hb2 => by have := hB q (.inr ⟨b, hbm, hb2⟩); omega, (hL b hbm).off (hy.lt hq).1⟩
      · omega


/-- the state between two series -/
structure RKSt (w wr : World) (v : Value) (L : List Ser) (K : List SK) : Prop where
  out : MOut wr w.heap.size v L
  tells : L.map Ser.sk = K
  below : Below w.heap.size w wr
  lab : ∀ y ∈ L, y.lab.At w w.heap.size 2 Lbl.cells
  small : ∀ y ∈ L, y.Fit
theorem RKSt.nil (w : World) : RKSt w w (.slice none 0 0) [] [] := ⟨MOut.nil _ _, rfl, Below.refl _ _, by simp, by simp⟩
theorem RKSt.on {w wr wx : World} {v : Value} {L : List Ser} {K : List SK} (h : RKSt w wr v L K) (hb : Below wr.heap.size wr wx) : RKSt w wx v L K :=
  ⟨h.out.below hb, h.tells, h.below.trans (hb.mono h.below.size), h.lab, h.small⟩
def RKeptRes (w : World) (K : List SK) (e : Ending) (w' : World) : Prop := ∃ (v : Value) (L : List Ser), e = .returned v ∧ RKSt w w' v L K

set_option maxHeartbeats 12800000 in
theorem rclip_any (A : Option Addr) (n c : Nat) (ss : List Ser) (a b : Int) (w : World) (hr : Row w w.heap.size 3 A n (serCells ss)) (hl : ss.length = n) (hat : ∀ x ∈ ss, x.At w w.heap.size) (hs : ∀ x ∈ ss, x.Fit) (hn : n * 72 ≤ 140737488351232) :
    Calls Try.prog 30 #[.slice A n c, .int .i64 a, .int .i64 b] w (RKeptRes w (clipAll a b ss)) := by
  obtain ⟨i0, hi, hz0, hz1, hz2⟩ := info_parts info_rser
  obtain ⟨iS, hiS, hzS0, hzS1, hzS2⟩ := info_parts info_rsmp
  obtain ⟨iW, hiW, hzW0, hzW1, hzW2⟩ := info_parts info_rwin
  have HR := hidden hr
  have HL := hidden hl
  have HAT := hidden hat
  have HSS := hidden hs
  have hn' : n ≤ 1954687338211 := by omega
  clear hr hl hat hs
  go_enter Try.func30, Try.ntmps30
  go_wp2_with fail
  go_loopw [7, 8] (fun vo vi wr => ∃ (k : Nat) (v : Value) (L : List Ser), vo = v ∧ vi = .int .i64 k ∧ k ≤ n ∧ L.length ≤ k ∧ Hid (RKSt w wr v L (clipAll a b (ss.take k)))) (fun _ vi _ => n - (intOf vi).toNat)
  case atStart => exact ⟨0, _, [], rfl, rfl, Nat.zero_le _, Nat.le_refl _, hidden (RKSt.nil w)⟩
  case round =>
    obtain ⟨k, v, L, rfl, rfl, hk, hLk, hst⟩ := hrel
    obtain ⟨w1, rfl⟩ : ∃ w1 : World, w1 = wr := ⟨_, rfl⟩
    by_cases hlt : k < n
    · obtain ⟨gs, o, hA, hgs, x, hx, d0, d1, d2⟩ := ser_cells_at HR.out HL.out hst.out.below k hlt
      subst hA
      simp only [Sl.val] at d0 d1 d2
      obtain ⟨sA, hsA⟩ : ∃ sA, x.smp.A = sA := ⟨_, rfl⟩
      obtain ⟨wA, hwA⟩ : ∃ wA, x.win.A = wA := ⟨_, rfl⟩
      rw [hsA] at d1
      rw [hwA] at d2
      have HsA := hidden hsA
      have HwA := hidden hwA
      clear hsA hwA
      have hxm := List.mem_of_getElem? hx
      have HXA := hidden (HAT.out x hxm)
      obtain ⟨hxl, hxs, hxw⟩ := HSS.out x hxm
      simp only [reachBytes] at hxl hxs hxw
      have hxs' : x.smp.n ≤ 8796093021952 := by omega
      have hxw' : x.win.n ≤ 2932031007317 := by omega
      have HTK : Hid (ss.take (k + 1) = ss.take k ++ [x]) := hidden (take_snoc? hx)
      have b1 : (k : Int) < (n : Int) := by omega
      have b2 : (0 : Int) ≤ (k : Int) := by omega
      have hwb := hst.out.below.size
      clear hx hxm
      go_upto_region 6 with (fail)
      have hZ := Whole1.new w1 85 #[.slice x.lab.A x.lab.n x.lab.c, .slice none 0 0, .slice none 0 0]
      have hbZ : Below w1.heap.size w1 (w1.alloc (.cells #[.slice x.lab.A x.lab.n x.lab.c, .slice none 0 0, .slice none 0 0] 85)) := (Below.refl _ _).alloc (Nat.le_refl _) _
      have hzs : (w1.alloc (.cells #[.slice x.lab.A x.lab.n x.lab.c, .slice none 0 0, .slice none 0 0] 85)).heap.size = w1.heap.size + 1 := World.size_alloc _ _
      generalize w1.alloc (.cells #[.slice x.lab.A x.lab.n x.lab.c, .slice none 0 0, .slice none 0 0] 85) = wZ at hZ hbZ hzs ⊢
      obtain ⟨Z, hZe⟩ : ∃ Z, w1.heap.size = Z := ⟨_, rfl⟩
      rw [hZe] at hZ hbZ hzs hwb ⊢
      have HZE := hidden hZe
      have HBZ := hidden hbZ
      have HZS := hidden hzs
      have HZZ := hidden hZ
      have HD : Hid (w1.cell? ⟨gs, o + k * 3, none⟩ = some (.slice x.lab.A x.lab.n x.lab.c) ∧ w1.cell? ⟨gs, o + k * 3 + 1, none⟩ = some (.slice sA x.smp.n x.smp.c) ∧ w1.cell? ⟨gs, o + k * 3 + 2, none⟩ = some (.slice wA x.win.n x.win.c)) := hidden ⟨d0, d1, d2⟩
      have hgZ : gs < Z := by omega
      clear hZ hbZ hzs hZe d0 d1 d2
      go_wp2_with fail
      go_loopw [10] (fun vj wx => ∃ (j n7 c7 : Nat) (A7 : Option Addr) (l7 : List Smp), vj = .int .i64 j ∧ j ≤ x.smp.n ∧ Hid (l7 = (x.smp.l.take j).filter (fun y => inR a b y.t)) ∧ l7.length = n7 ∧ n7 ≤ j ∧ Hid (Whole1 wx Z 85 #[.slice x.lab.A x.lab.n x.lab.c, .slice A7 n7 c7, .slice none 0 0]) ∧ Hid (wx.ownsRow wZ.heap.size smpT 2 (.slice A7 n7 c7) n7 (l7.flatMap Smp.cells)) ∧ Hid (wZ.grownBy wx (some Z))) (fun vj _ => x.smp.n - (intOf vj).toNat)
      case atStart => exact ⟨0, 0, 0, none, [], rfl, Nat.zero_le _, hidden rfl, rfl, Nat.le_refl _, HZZ, hidden (World.ownsRow_nil _ _ _ _), hidden (gb_refl _ _)⟩
      case round =>
        obtain ⟨j, n7, c7, A7, l7, rfl, hj, hl7, hn7, hnj, hZ, ho7, hg7⟩ := hrel
        obtain ⟨wo, rfl⟩ : ∃ wo : World, wo = wr := ⟨_, rfl⟩
        have hzz := HZS.out
        have hbo : Below Z w1 wo := HBZ.out.grown hg7.out (by omega) (fun q hq => by injection hq with hq; omega)
        have d1 : wo.cell? ⟨gs, o + k * 3 + 1, none⟩ = some (.slice sA x.smp.n x.smp.c) := (hbo.cell (p := ⟨gs, o + k * 3 + 1, none⟩) hgZ).trans HD.out.2.1
        have hbw : Below w.heap.size w wo := hst.out.below.trans (hbo.mono hwb)
        have z1 := hZ.out.cell 1
        have f1 := hZ.out.free 1
        by_cases hjs : j < x.smp.n
        · obtain ⟨gy, oy, z, hAy, hgy, hz, hcy⟩ := row_at (enc := Smp.cells) InsSmp.hkk ((HXA.out.smp.below hbw).2.2) HXA.out.smp.2.1 j hjs
          rw [HsA.out] at hAy
          subst hAy
          have u0 : wo.cell? ⟨gy, oy + j * 2, none⟩ = some (.int .i64 z.t) := hcy 0 (by omega)
          have u1 : wo.cell? ⟨gy, oy + j * 2 + 1, none⟩ = some (.int .u64 z.v) := hcy 1 (by omega)
          have HTJ : Hid (x.smp.l.take (j + 1) = x.smp.l.take j ++ [z]) := hidden (take_snoc? hz)
          have c1 : (j : Int) < (x.smp.n : Int) := by omega
          have c2 : (0 : Int) ≤ (j : Int) := by omega
          have hmj : x.smp.n - (j + 1) < x.smp.n - j := by omega
          have HBO := hidden hbo
          clear hz hcy hbw hbo
          by_cases hin : a ≤ z.t ∧ z.t ≤ b
          · have hp := hidden (by simp [inR, hin.1, hin.2] : inR a b z.t = true)
            obtain ⟨i1, i2⟩ := hin
            have how := ho7.out
            have hfr := Row.fresh wo.drew 86 2 1 [.int .i64 z.t, .int .u64 (z.v : Nat)] rfl
            have T := fun (ops : Array Oper) (o : Oper) (a : Act) (K : Act → World → Prop) (Q : Exit → Act → World → Prop) (E : Prop) (hg : o.guard = none) (s1 s2 : Operand) (ho : o.op = .call { callee := .builtin .append, args := #[s1, s2], argTypes := #[82, 82] }) (hs : a.eval s1 = .slice A7 n7 c7) (hx : a.eval s2 = .slice (some ⟨wo.heap.size, 0, none⟩) 1 1) h =>
              step_app (P := Try.prog) (ops := ops) (o := o) (a := a) (K := K) (Q := Q) (E := E) (wo.drew.alloc (.cells #[.int .i64 z.t, .int .u64 (z.v : Nat)] 86)) hg s1 s2 82 ho wZ.heap.size 86 iS _ 2 16 Try.underlying82 hiS hzS0 hzS1 hzS2 rfl (by decide) _ _ _ hs (how.alloc _) _ _ _ _ _ hx hfr (smpCells_one [z]) (by unfold maxLen; omega) (by omega) (by have := hg7.out.size; rw [World.size_alloc]; exact Nat.le_succ_of_le this) h
            have z1b := (hZ.out.alloc (.cells #[.int .i64 z.t, .int .u64 (z.v : Nat)] 86)).cell 1
            clear how hfr
            go_wp2_with fail
            go_region_law (refine T _ _ _ _ _ _ rfl _ _ rfl rfl rfl ?_; intro v10 w10 hown10 hg10 hat10; obtain ⟨A10, c10, rfl, hc10, hr10⟩ := own_shape hown10; have hZ10 := (hZ.out.drew.alloc (.cells #[.int .i64 z.t, .int .u64 (z.v : Nat)] 86)).grown hg10 (own_ne ho7.out (by omega)); have q1 := hZ10.cell 1; have f2 := hZ10.free 1)
            all_goals
              go_wp2_with fail
              go_roundw
              case rel =>
                exact ⟨j + 1, n7 + 1, c10, A10, l7 ++ [z], by go_num, hjs, hidden (by rw [HTJ.out, filter_snoc, hp.out, if_pos rfl, hl7.out]), by rw [List.length_append, hn7]; rfl, by omega, hidden (hZ10.put 1 _), hidden (own_put (by rw [List.flatMap_append]; exact hown10) (by omega) 1 _), hidden (gb_put (gb_far (gb_alloc (gb_drew hg7.out) _) hg10 (fun q hq => (ho7.out.lt q hq).1)) _ _)⟩
              case measure => simp [intOf]; omega
          · have hp : Hid (inR a b z.t = false) := hidden (by
              unfold inR
              by_cases h1 : a ≤ z.t
              · have : ¬ z.t ≤ b := fun h2 => hin ⟨h1, h2⟩
                simp [this]
              · simp [h1])
            have HREL := hidden (by rw [HTJ.out, filter_snoc, hp.out, if_neg (by decide)]; exact hl7.out : l7 = (x.smp.l.take (j + 1)).filter (fun y => inR a b y.t))
            by_cases h1 : a ≤ z.t
            · have h2 : ¬ z.t ≤ b := fun h2 => hin ⟨h1, h2⟩
              clear hin
              go_wp2_with fail
              go_roundw
              case rel => exact ⟨j + 1, n7, c7, A7, l7, by go_num, hjs, HREL, hn7, by omega, hZ, ho7, hg7⟩
              case measure => simp [intOf]; omega
            · clear hin
              go_wp2_with fail
              go_roundw
              case rel => exact ⟨j + 1, n7, c7, A7, l7, by go_num, hjs, HREL, hn7, by omega, hZ, ho7, hg7⟩
              case measure => simp [intOf]; omega
        · obtain rfl : j = x.smp.n := by omega
          obtain ⟨wC, rfl⟩ : ∃ wC : World, wC = wo := ⟨_, rfl⟩
          have HL7 : Hid (l7 = x.smp.l.filter (fun y => inR a b y.t)) := hidden (by
            have := hl7.out
            rwa [List.take_of_length_le (by rw [HXA.out.smp.2.1]; exact Nat.le_refl _)] at this)
          have HZC := hZ
          have HBC := hidden hbo
          have hCs := hg7.out.size
          clear hl7 hbo hbw
          go_wp2_with fail
          go_loopw [11] (fun vj wx => ∃ (j n8 c8 : Nat) (A8 : Option Addr) (l8 : List Win), vj = .int .i64 j ∧ j ≤ x.win.n ∧ Hid (l8 = (x.win.l.take j).filter (fun y => inR a b y.start)) ∧ l8.length = n8 ∧ n8 ≤ j ∧ Hid (Whole1 wx Z 85 #[.slice x.lab.A x.lab.n x.lab.c, .slice A7 n7 c7, .slice A8 n8 c8]) ∧ Hid (wx.ownsRow wC.heap.size winT 6 (.slice A8 n8 c8) n8 (l8.flatMap Win.cells)) ∧ Hid (wC.grownBy wx (some Z))) (fun vj _ => x.win.n - (intOf vj).toNat)
          case atStart => exact ⟨0, 0, 0, none, [], rfl, Nat.zero_le _, hidden rfl, rfl, Nat.le_refl _, HZC, hidden (World.ownsRow_nil _ _ _ _), hidden (gb_refl _ _)⟩
          case round =>
            obtain ⟨j, n8, c8, A8, l8, rfl, hj, hl8, hn8, hnj, hZ, ho8, hg8⟩ := hrel
            obtain ⟨wo, rfl⟩ : ∃ wo : World, wo = wr := ⟨_, rfl⟩
            have hzz := HZS.out
            have hbo : Below Z w1 wo := HBC.out.grown hg8.out (by omega) (fun q hq => by injection hq with hq; omega)
            have d2 : wo.cell? ⟨gs, o + k * 3 + 2, none⟩ = some (.slice wA x.win.n x.win.c) := (hbo.cell (p := ⟨gs, o + k * 3 + 2, none⟩) hgZ).trans HD.out.2.2
            have hbw : Below w.heap.size w wo := hst.out.below.trans (hbo.mono hwb)
            have z1 := hZ.out.cell 2
            have f1 := hZ.out.free 2
            by_cases hjs : j < x.win.n
            · obtain ⟨gy, oy, z, hAy, hgy, hz, hcy⟩ := row_at (enc := Win.cells) InsWin.hkk ((HXA.out.win.below hbw).2.2) HXA.out.win.2.1 j hjs
              rw [HwA.out] at hAy
              subst hAy
              have u0 : wo.cell? ⟨gy, oy + j * 6, none⟩ = some (.int .i64 z.start) := hcy 0 (by omega)
              have u1 : wo.cell? ⟨gy, oy + j * 6 + 1, none⟩ = some (.int .i64 z.count) := hcy 1 (by omega)
              have u2 : wo.cell? ⟨gy, oy + j * 6 + 2, none⟩ = some (.int .u64 z.sum) := hcy 2 (by omega)
              have u3 : wo.cell? ⟨gy, oy + j * 6 + 3, none⟩ = some (.int .u64 z.min) := hcy 3 (by omega)
              have u4 : wo.cell? ⟨gy, oy + j * 6 + 4, none⟩ = some (.int .u64 z.max) := hcy 4 (by omega)
              have u5 : wo.cell? ⟨gy, oy + j * 6 + 5, none⟩ = some (.int .u64 z.last) := hcy 5 (by omega)
              have HTJ : Hid (x.win.l.take (j + 1) = x.win.l.take j ++ [z]) := hidden (take_snoc? hz)
              have c1 : (j : Int) < (x.win.n : Int) := by omega
              have c2 : (0 : Int) ≤ (j : Int) := by omega
              have hmj : x.win.n - (j + 1) < x.win.n - j := by omega
              have HBO := hidden hbo
              clear hz hcy hbw hbo
              by_cases hin : a ≤ z.start ∧ z.start ≤ b
              · have hp := hidden (by simp [inR, hin.1, hin.2] : inR a b z.start = true)
                obtain ⟨i1, i2⟩ := hin
                have how := ho8.out
                have hfr := Row.fresh wo.drew 89 6 1 [.int .i64 z.start, .int .i64 z.count, .int .u64 (z.sum : Nat), .int .u64 (z.min : Nat), .int .u64 (z.max : Nat), .int .u64 (z.last : Nat)] rfl
                have T := fun (ops : Array Oper) (o : Oper) (a : Act) (K : Act → World → Prop) (Q : Exit → Act → World → Prop) (E : Prop) (hg : o.guard = none) (s1 s2 : Operand) (ho : o.op = .call { callee := .builtin .append, args := #[s1, s2], argTypes := #[83, 83] }) (hs : a.eval s1 = .slice A8 n8 c8) (hx : a.eval s2 = .slice (some ⟨wo.heap.size, 0, none⟩) 1 1) h =>
                  step_app (P := Try.prog) (ops := ops) (o := o) (a := a) (K := K) (Q := Q) (E := E) (wo.drew.alloc (.cells #[.int .i64 z.start, .int .i64 z.count, .int .u64 (z.sum : Nat), .int .u64 (z.min : Nat), .int .u64 (z.max : Nat), .int .u64 (z.last : Nat)] 89)) hg s1 s2 83 ho wC.heap.size 89 iW _ 6 48 Try.underlying83 hiW hzW0 hzW1 hzW2 rfl (by decide) _ _ _ hs (how.alloc _) _ _ _ _ _ hx hfr (winCells_one [z]) (by unfold maxLen; omega) (by omega) (by have := hg8.out.size; rw [World.size_alloc]; exact Nat.le_succ_of_le this) h
                have z1b := (hZ.out.alloc (.cells #[.int .i64 z.start, .int .i64 z.count, .int .u64 (z.sum : Nat), .int .u64 (z.min : Nat), .int .u64 (z.max : Nat), .int .u64 (z.last : Nat)] 89)).cell 2
                clear how hfr
                go_wp2_with fail
                go_region_law (refine T _ _ _ _ _ _ rfl _ _ rfl rfl rfl ?_; intro v10 w10 hown10 hg10 hat10; obtain ⟨A10, c10, rfl, hc10, hr10⟩ := own_shape hown10; have hZ10 := (hZ.out.drew.alloc (.cells #[.int .i64 z.start, .int .i64 z.count, .int .u64 (z.sum : Nat), .int .u64 (z.min : Nat), .int .u64 (z.max : Nat), .int .u64 (z.last : Nat)] 89)).grown hg10 (own_ne ho8.out (by omega)); have q1 := hZ10.cell 2; have f2 := hZ10.free 2)
                all_goals
                  go_wp2_with fail
                  go_roundw
                  case rel =>
                    exact ⟨j + 1, n8 + 1, c10, A10, l8 ++ [z], by go_num, hjs, hidden (by rw [HTJ.out, filter_snoc, hp.out, if_pos rfl, hl8.out]), by rw [List.length_append, hn8]; rfl, by omega, hidden (hZ10.put 2 _), hidden (own_put (by rw [List.flatMap_append]; exact hown10) (by omega) 2 _), hidden (gb_put (gb_far (gb_alloc (gb_drew hg8.out) _) hg10 (fun q hq => (ho8.out.lt q hq).1)) _ _)⟩
                  case measure => simp [intOf]; omega
              · have hp : Hid (inR a b z.start = false) := hidden (by
                  unfold inR
                  by_cases h1 : a ≤ z.start
                  · have : ¬ z.start ≤ b := fun h2 => hin ⟨h1, h2⟩
                    simp [this]
                  · simp [h1])
                have HREL := hidden (by rw [HTJ.out, filter_snoc, hp.out, if_neg (by decide)]; exact hl8.out : l8 = (x.win.l.take (j + 1)).filter (fun y => inR a b y.start))
                by_cases h1 : a ≤ z.start
                · have h2 : ¬ z.start ≤ b := fun h2 => hin ⟨h1, h2⟩
                  clear hin
                  go_wp2_with fail
                  go_roundw
                  case rel => exact ⟨j + 1, n8, c8, A8, l8, by go_num, hjs, HREL, hn8, by omega, hZ, ho8, hg8⟩
                  case measure => simp [intOf]; omega
                · clear hin
                  go_wp2_with fail
                  go_roundw
                  case rel => exact ⟨j + 1, n8, c8, A8, l8, by go_num, hjs, HREL, hn8, by omega, hZ, ho8, hg8⟩
                  case measure => simp [intOf]; omega
            · obtain rfl : j = x.win.n := by omega
              obtain ⟨wD, rfl⟩ : ∃ wD : World, wD = wo := ⟨_, rfl⟩
              have HL8 : Hid (l8 = x.win.l.filter (fun y => inR a b y.start)) := hidden (by
                have := hl8.out
                rwa [List.take_of_length_le (by rw [HXA.out.win.2.1]; exact Nat.le_refl _)] at this)
              have hCD := hg8.out.size
              have HBD := hidden hbo
              have hla := hidden (HXA.out.lab)
              -- the series, as it lies
              have HYO : Hid (SerOwn wD w.heap.size ⟨x.lab, ⟨A7, n7, c7, l7⟩, ⟨A8, n8, c8, l8⟩⟩) := hidden (by
                have hlD := hla.out.below hbw
                refine ⟨hlD.more hbw.size, ?_, own_more ho8.out (by omega), ⟨hn7, hn8⟩, ?_, ?_⟩
                · refine own_more (ho7.out.kept hg8.out ?_) (by omega)
                  cases hv : (Value.slice A7 n7 c7).ownBlock with
                  | none => exact .inl rfl
                  | some q => exact .inr fun e => by injection e with e; have := (ho7.out.lt q hv).1; omega
                · intro q h1 h2
                  have := (ho7.out.lt q h1).2
                  have := (ho8.out.lt q h2).1
                  omega
                · rintro q (hq | hq)
                  · exact hlD.off (by have := (ho7.out.lt q hq).1; omega)
                  · exact hlD.off (by have := (ho8.out.lt q hq).1; omega))
              have HYB : Hid (∀ q, (⟨x.lab, ⟨A7, n7, c7, l7⟩, ⟨A8, n8, c8, l8⟩⟩ : Ser).blk q → Z ≤ q) := hidden (by
                rintro q (hq | hq)
                · have := (ho7.out.lt q hq).1; omega
                · have := (ho8.out.lt q hq).1; omega)
              have HST0 := hidden (hst.out.on (by rw [HZE.out]; exact hbo))
              have HLT := hidden (by have := mout_lt hst.out.out; rw [HZE.out] at this; exact this : ∀ q, (u7.ownBlock = some q ∨ ∃ z ∈ L, z.blk q) → q < Z)
              have HLAB := hidden (fun z hz => (hst.out.lab z hz).below hbw : ∀ z ∈ L, z.lab.At wD w.heap.size 2 Lbl.cells)
              have HLY := hidden (hla.out.below hbw)
              have z0 := hZ.out.cell 0
              have z1' := hZ.out.cell 1
              have z2' := hZ.out.cell 2
              have hsum : n7 + n8 ≤ 17592186044416 := by omega
              clear hl8 hst hbo hbw z1 f1
              by_cases hfu : n7 + n8 = 0
              · have h7 : l7 = [] := List.eq_nil_of_length_eq_zero (by omega)
                have h8 : l8 = [] := List.eq_nil_of_length_eq_zero (by omega)
                have HFI : Hid (RKSt w wD u7 L (clipAll a b (ss.take (k + 1)))) := hidden (by
                  unfold clipAll
                  rw [HTK.out, kept_snoc, if_pos ⟨by rw [← HL7.out]; exact h7, by rw [← HL8.out]; exact h8⟩, List.append_nil]
                  exact HST0.out)
                have b6 : ¬ (0 : Int) < (n7 : Int) + (n8 : Int) := by omega
                clear hfu h7 h8
                go_wp2_with fail
                go_roundw
                case rel => exact ⟨k + 1, _, L, rfl, by go_num, by omega, by omega, HFI⟩
                case measure => simp [intOf]; omega
              · have b6 : (0 : Int) < (n7 : Int) + (n8 : Int) := by omega
                have HNF : Hid (¬ (x.smp.l.filter (fun y => inR a b y.t) = [] ∧ x.win.l.filter (fun y => inR a b y.start) = [])) := hidden (by
                  rw [← HL7.out, ← HL8.out]
                  rintro ⟨h1, h2⟩
                  rw [h1] at hn7
                  rw [h2] at hn8
                  simp at hn7 hn8
                  omega)
                obtain ⟨A4, c4, rfl, hc4, hr4⟩ := own_shape HST0.out.out.row
                obtain ⟨ll, hll⟩ : ∃ ll, L.length = ll := ⟨_, rfl⟩
                have HRW := hidden HST0.out.out.row
                rw [hll] at hc4 hLk HRW ⊢
                rw [hll] at HST0 HLT
                have HLL := hidden hll
                have hfr := Row.fresh wD 85 3 1 [.slice x.lab.A x.lab.n x.lab.c, .slice A7 n7 c7, .slice A8 n8 c8] rfl
                have hws := HST0.out.below.size
                clear hll hr4 hfu
                go_wp2_with (at_builtin; refine wpList_app _ rfl _ _ 25 rfl w.heap.size 85 i0 _ 3 72 Try.underlying25 hi hz0 hz1 hz2 rfl (by decide) _ _ _ rfl (HRW.out.alloc _) _ _ _ _ _ rfl hfr (by simp [Value.oneCell']) (by unfold maxLen; omega) (by omega) (by simp; omega) ?_; intro v10 w10 hown10 hg10 hat10)
                go_roundw
                case rel =>
                  have hbA : Below wD.heap.size wD (wD.alloc (.cells #[.slice x.lab.A x.lab.n x.lab.c, .slice A7 n7 c7, .slice A8 n8 c8] 85)) := (Below.refl _ _).alloc (Nat.le_refl _) _
                  have hadd := (HST0.out.out.below hbA).add (v' := v10) (HYO.out.grown (gb_below hbA none) (fun q hq => by cases hq)) HLT.out (fun z hz => (HLAB.out z hz).below (hbA.mono hws)) HYB.out (HLY.out.below (hbA.mono hws)) hg10 (hat10.imp id fun h => ⟨_, h, Nat.le_refl _⟩) (by rw [serCells_snoc, HLL.out]; exact hown10)
                  refine ⟨k + 1, _, _, rfl, by go_num, by omega, by rw [List.length_append, HLL.out]; show ll + 1 ≤ _; omega, hidden ⟨hadd, ?_, ?_, ?_, ?_⟩⟩
                  · unfold clipAll
                    rw [HTK.out, kept_snoc, if_neg HNF.out, List.map_append, HST0.out.tells]
                    unfold keptOf
                    rw [← HL7.out, ← HL8.out]
                    rfl
                  · exact (HST0.out.below.trans (hbA.mono hws)).grown hg10 (by have := hbA.size; omega) (fun q hq => (HRW.out.lt q hq).1)
                  · intro y hy
                    rcases List.mem_append.1 hy with hy | hy
                    · exact HST0.out.lab y hy
                    · rw [List.mem_singleton.1 hy]
                      exact hla.out
                  · intro y hy
                    rcases List.mem_append.1 hy with hy | hy
                    · exact HST0.out.small y hy
                    · rw [List.mem_singleton.1 hy]
                      exact ⟨by show x.lab.n * 32 ≤ reachBytes; simp only [reachBytes]; omega, by show n7 * 16 ≤ reachBytes; simp only [reachBytes]; omega, by show n8 * 48 ≤ reachBytes; simp only [reachBytes]; omega⟩
                case measure => simp [intOf]; omega
    · obtain rfl : k = n := by omega
      have HF := hst
      clear hst
      go_wp2_with fail
      go_ret
      have := HF.out
      rw [List.take_of_length_le (by rw [HL.out]; exact Nat.le_refl _)] at this
      exact ⟨_, L, rfl, this⟩
end Go.Proofs.Ytohocdbneopooaa.MR
