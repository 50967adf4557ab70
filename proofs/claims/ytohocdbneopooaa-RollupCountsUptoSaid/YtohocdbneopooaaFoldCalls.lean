/- grouped over samples: what it returns. Condition: the row is within the reach. grouped over windows: what it returns. Condition: the row is within the reach. fold.Windows and fold.Widen: what they return. Condition: the rows are within the reach. -/
import Derived.Test.YtohocdbneopooaaFoldGrp
import Derived.Lib.QuietBelow
namespace Go.Proofs.Ytohocdbneopooaa
set_option maxRecDepth 100000
open Go.RowKit

abbrev Smp.at_ (x : Smp) : Int := x.t
def Keeps (w w' : World) : Prop := ∀ a u, w.cell? a = some u → w'.cell? a = some u
theorem keeps_below {w w' : World} (h : Below w.heap.size w w') : Keeps w w' := fun a _ hu => (h.cell (p := a) (World.block_lt_of_cell? w a hu)).trans hu

theorem sampleTime_k (x : Smp) (w : World) :
    Calls Try.prog 93 #[.agg #[.int .i64 x.t, .int .u64 (x.v : Nat)]] w fun e w' => e = .returned (.int .i64 x.t) ∧ Below w.heap.size w w' ∧ Keeps w w' :=
  (sampleTime_any x w).mono fun _ _ ⟨he, hb⟩ => ⟨he, hb, keeps_below hb⟩

/-- the windows of groups of samples -/
def smpWin (g : Int × List Smp) : Win := refWin g.1 g.2.length (lastV g.2) (vals g.2) (vals g.2) (vals g.2)

theorem smpCells_cut (l : List Smp) (i m : Nat) : ((smpCells l).drop (i * 2)).take (m * 2) = smpCells ((l.drop i).take m) := by
  have hd : ∀ (l : List Smp) (i : Nat), (smpCells l).drop (i * 2) = smpCells (l.drop i) := by
    intro l
    induction l with
    | nil => intro i; simp [smpCells]
    | cons a l ih =>
      intro i
      cases i with
      | zero => simp
      | succ i => rw [show (i + 1) * 2 = i * 2 + 1 + 1 from by omega]; simpa [smpCells] using ih i
  have ht : ∀ (l : List Smp) (m : Nat), (smpCells l).take (m * 2) = smpCells (l.take m) := by
    intro l
    induction l with
    | nil => intro i; simp [smpCells]
    | cons a l ih =>
      intro i
      cases i with
      | zero => simp [smpCells]
      | succ i => rw [show (i + 1) * 2 = i * 2 + 1 + 1 from by omega]; simpa [smpCells] using ih i
  rw [hd, ht]
theorem winCells_append (a b : List Win) : winCells (a ++ b) = winCells a ++ winCells b := by simp [winCells]

/-- what grouped answers: the windows, or none beside an error -/
def GrpResS (d : Int) (l : List Smp) (B : Nat) (w' : World) (v : Value) : Prop :=
  if errOf Smp.t (fun _ => 0) d l = 0 then w'.ownsRow B 88 6 v (groupsOf Smp.t d l).length (winCells ((groupsOf Smp.t d l).map smpWin)) else v = .slice none 0 0

set_option maxRecDepth 100000 in
set_option maxHeartbeats 3200000 in
theorem groupedS_any (d : Int) (A : Option Addr) (n cap : Nat) (l : List Smp) (w : World) (hr : Row w w.heap.size 2 A n (smpCells l)) (hl : l.length = n) (hnc : n ≤ cap) (hn : n * 48 ≤ 140737488351232) (hok : ∀ s ∈ l, s.ok) :
    Calls Try.prog 92 #[.int .i64 d, .slice A n cap, .func (.func 93) #[] #[], .func (.func 94) #[] #[], .func (.func 95) #[] #[]] w
      fun e w' => ∃ v, e = .returned (.tuple #[v, .int .i64 (errOf Smp.t (fun _ => 0) d l)]) ∧ GrpResS d l w.heap.size w' v ∧ Below w.heap.size w w' := by
  obtain ⟨i0, hi, iz0, iz1, iz2⟩ := info_parts info_win
  by_cases hd : d < 1 ∨ 1099511627776 < d
  · have hE := hidden (errOf_width Smp.t (fun _ => 0) d l hd)
    have hG : Hid (∀ w', GrpResS d l w.heap.size w' (.slice none 0 0)) := fun w' => by unfold GrpResS; rw [hE.out, if_neg (by decide)]
    rcases hd with h | h
    · go_enter Try.func92, Try.ntmps92
      go_wp2
      go_ret2
      exact ⟨_, by rw [hE.out]; rfl, hG.out _, Below.refl _ _⟩
    · have h' : ¬ d < 1 := by omega
      go_enter Try.func92, Try.ntmps92
      go_wp2
      go_ret2
      exact ⟨_, by rw [hE.out]; rfl, hG.out _, Below.refl _ _⟩
  · have d1 : 1 ≤ d := by omega
    have d2 : d ≤ 1099511627776 := by omega
    have hD := hidden hd
    clear hd
    have hL := hidden hl
    clear hl
    go_enter Try.func92, Try.ntmps92
    go_wp2
    go_loopw [12, 13, 14, 28] (fun out from_ begin i wr => ∃ k : Nat, k ≤ n ∧ i = .int .i64 k ∧ (∀ j, j < k → stepErr Smp.t (fun _ => 0) d l j = 0) ∧
        from_ = .int .i64 ((k - (grpScan Smp.t d (l.take k)).2.1.length : Nat) : Int) ∧ begin = .int .i64 (grpScan Smp.t d (l.take k)).2.2 ∧ wr.ownsRow w.heap.size 88 6 out (grpScan Smp.t d (l.take k)).1.length (winCells ((grpScan Smp.t d (l.take k)).1.map smpWin)) ∧ Below w.heap.size w wr) (fun _ _ _ i _ => n - (intOf i).toNat)
    case atStart => exact ⟨0, Nat.zero_le _, rfl, fun j hj => absurd hj (by omega), rfl, rfl, World.ownsRow_nil _ _ _ _, Below.refl _ _⟩
    case round =>
      obtain ⟨k, hk, rfl, herr, rfl, rfl, hown, hb⟩ := hrel
      by_cases hlt : k < n
      · obtain ⟨gs, o, rfl, x, hx, c0, c1⟩ := smp_cells_at hr hL.out hb k hlt
        have hT := hidden (take_snoc? hx)
        have hX := hidden hx
        clear hx
        obtain ⟨xt, xv⟩ := x
        simp only at c0 c1
        have hbs := hb.size
        have hxb : Whole1 (wr.alloc (Obj.cells #[.int .i64 xt, .int .u64 ((xv : Nat) : Int)] 55)) wr.heap.size 55 #[.int .i64 xt, .int .u64 ((xv : Nat) : Int)] := Whole1.new _ _ _
        have hb1 := hb.alloc hb.size (Obj.cells #[.int .i64 xt, .int .u64 ((xv : Nat) : Int)] 55)
        have hO1 := hidden (hown.alloc (Obj.cells #[.int .i64 xt, .int .u64 ((xv : Nat) : Int)] 55))
        have hX0 := hidden hxb
        have hB1 := hidden hb1
        clear hxb hb1
        have hlen : (⟨xt, xv⟩ : Smp).t = xt := rfl
        go_upto_region 8 with (fail)
        have hX1 := hX0.out
        have hB2 := hB1.out
        have hO2 := hO1.out
        have hs2 : w.heap.size ≤ (wr.alloc (Obj.cells #[.int .i64 xt, .int .u64 ((xv : Nat) : Int)] 55)).heap.size := by simp; omega
        clear hX0 hB1 hO1 c0 c1 hown hb
        generalize wr.alloc _ = w5 at hX1 hB2 hO2 hs2 ⊢
        have x0 : w5.cell? ⟨wr.heap.size, 0, none⟩ = some (.int .i64 xt) := hX1.cell 0
        have x1 : w5.cell? ⟨wr.heap.size, 1, none⟩ = some (.int .u64 ((xv : Nat) : Int)) := hX1.cell 1
        have hX0 := hidden hX1
        have hB0 := hidden hB2
        have hO0 := hidden hO2
        clear hX1 hB2 hO2
        go_wp2_with fail
        refine (sampleTime_any ⟨xt, xv⟩ _).mono ?_
        rintro e w6 ⟨rfl, hb6⟩
        have hX6 := hX0.out.below hb6 hX0.out.lt
        have hB6 := hB0.out.trans (hb6.mono hs2)
        have hO6 := own_below hO0.out hb6 (Nat.le_refl _)
        have hs6 := hb6.size
        have y0 : w6.cell? ⟨wr.heap.size, 0, none⟩ = some (.int .i64 xt) := hX6.cell 0
        have y1 : w6.cell? ⟨wr.heap.size, 1, none⟩ = some (.int .u64 ((xv : Nat) : Int)) := hX6.cell 1
        have hX7 := hidden hX6
        have hB7 := hidden hB6
        have hO7 := hidden hO6
        clear hX6 hB6 hO6 hb6 x0 x1 hX0 hB0 hO0
        generalize hbg : beginOf xt d = bg
        have hBG := hidden hbg
        clear hbg
        obtain ⟨b, ec⟩ := bg
        go_wp2_with fail
        refine (start_any xt d _).mono ?_
        rw [hBG.out]
        rintro e w7 ⟨rfl, rfl⟩
        by_cases hec : ec = 0
        · have hec1 : (ec != 0) = false := by simp [hec]
          have HEC := hidden hec
          clear hec
          go_upto_region 11 with (fail)
          go_cut [45] (fun v wx => v = .bool (ordB Smp.t l k xt) ∧ Below w6.heap.size w6 wx)
          case first =>
            by_cases hk0 : k = 0
            · subst hk0
              have hg0 : (decide ((0 : Int) < ((0 : Nat) : Int))) = false := by decide
              go_quiet (fail)
              go_wp2_with fail
              go_meet
              exact ⟨rfl, below_drewN (Below.refl _ _) _⟩
            · obtain ⟨j, hj⟩ : ∃ j, k = j + 1 := ⟨k - 1, by omega⟩
              obtain ⟨gs', o', hA, z, hz, e0, e1⟩ := smp_cells_at hr hL.out hB7.out j (by omega)
              injection hA with hA
              injection hA with hA1 hA2
              subst hA1 hA2
              have hz0 := hidden hz
              clear hz
              obtain ⟨zt, zv⟩ := z
              simp only at e0 e1
              have t3 : IntKind.i64.wrap ((k : Int) - 1) = (j : Int) := by rw [IntKind.wrap_i64]; omega
              have t4 : (j : Int) < (n : Int) := by omega
              have t5 : (0 : Int) ≤ (j : Int) := by omega
              have t6 : decide (0 < k) = true := by rw [decide_eq_true_eq]; omega
              have hj0 := hidden hj
              clear hj hk0
              have k0 := cell_regrown e0
              have k1 := cell_regrown e1
              have k2 := cell_regrown y0
              have k3 := cell_regrown y1
              have s1 : ∀ D os, Calls Try.prog 93 #[.agg #[.int .i64 zt, .int .u64 ((zv : Nat) : Int)]] (Sort.grow (redrawn w6 D) os) fun e w'' => e = .returned (.int .i64 zt) ∧ ∃ p : Regrown, w'' = Sort.grow (redrawn w6 p.d) p.os := fun D os => Calls.regrown_of (sampleTime_any ⟨zt, zv⟩ _)
              have s2 : ∀ D os, Calls Try.prog 93 #[.agg #[.int .i64 xt, .int .u64 ((xv : Nat) : Int)]] (Sort.grow (redrawn w6 D) os) fun e w'' => e = .returned (.int .i64 xt) ∧ ∃ p : Regrown, w'' = Sort.grow (redrawn w6 p.d) p.os := fun D os => Calls.regrown_of (sampleTime_any ⟨xt, xv⟩ _)
              have S1 := hidden s1
              have S2 := hidden s2
              clear s1 s2 e0 e1 y0 y1
              refine wp_region_quiet_below (by kernel_rfl) (by kernel_rfl) ?_
              repeat (first | go_big_quiet_step (first | exact S1.out _ _ | exact S2.out _ _) | quiet_step (first | exact S1.out _ _ | exact S2.out _ _))
              refine wpQuiet_nil ?_
              intro _ hw'
              obtain ⟨⟨dq, osq⟩, hw''⟩ := hw'
              subst hw''
              go_wp2_with fail
              go_meet
              exact ⟨by rw [hj0.out, ordB_succ Smp.t hz0.out], below_regrown _ _ _⟩
          case rest =>
            obtain ⟨rfl, hb8⟩ := hcut
            have hB8 := hidden (hB7.out.trans (hb8.mono (Nat.le_trans hs2 hs6)))
            have hO8 := hidden (own_below hO7.out hb8 (Nat.le_refl _))
            have hX8 := hidden (hX7.out.below hb8 hX7.out.lt)
            have hs8 := hb8.size
            clear hB7 hO7 hX7 hb8 y0 y1
            have hse := stepErr_eq Smp.t (fun _ => 0) d hX.out hBG.out
            rw [if_neg (by rw [HEC.out]; decide)] at hse
            generalize hob : ordB Smp.t l k xt = ob at hse
            have HOB := hidden hob
            clear hob
            cases ob
            · rw [if_neg (by decide)] at hse
              have hS0 := hidden hse
              clear hse
              have z0 : wc.cell? ⟨wr.heap.size, 0, none⟩ = some (.int .i64 xt) := hX8.out.cell 0
              have z1 : wc.cell? ⟨wr.heap.size, 1, none⟩ = some (.int .u64 ((xv : Nat) : Int)) := hX8.out.cell 1
              go_wp2_with fail
              refine (okSample_any ⟨xt, xv⟩ _).mono ?_
              rintro e w9 ⟨rfl, hb9⟩
              have hB9 := hidden (hB8.out.trans (hb9.mono (Nat.le_trans (Nat.le_trans hs2 hs6) hs8)))
              have hO9 := hidden (own_below hO8.out hb9 (Nat.le_refl _))
              have hs9 : w.heap.size ≤ w9.heap.size := by have := hb9.size; omega
              clear hb9 hB8 hO8 hX8 z0 z1
              have htl : (l.take k).length = k := by rw [List.length_take, hL.out]; omega
              have hc1 := grpScan_cur Smp.t d (l.take k)
              have hc2 := (grpScan_flat Smp.t d (l.take k)).2
              have hc3 := grpScan_len Smp.t d (l.take k)
              have hst := grpScan_snoc Smp.t d (l.take k) ⟨xt, xv⟩
              rw [htl] at hc1 hc3
              rw [← hT.out] at hst
              generalize grpScan Smp.t d (l.take k) = s at hc1 hc2 hc3 hst hO9 ⊢
              obtain ⟨cl, cur, bg⟩ := s
              simp only at hc1 hc2 hc3 hst hO9 ⊢
              unfold grpStep at hst
              simp only at hst
              have hb0 : b = xt / d * d := by
                have h1 := hBG.out
                have h2 := HEC.out
                unfold beginOf at h1
                rw [if_neg hD.out] at h1
                split at h1
                · injection h1 with h3 h4; omega
                · injection h1 with h3 h4; exact h3.symm
              rw [← hb0] at hst
              have herr1 : Hid (∀ j, j < k + 1 → stepErr Smp.t (fun _ => 0) d l j = 0) := fun j hj => by
                rcases Nat.lt_or_ge j k with h | h
                · exact herr j h
                · have : j = k := by omega
                  subst this; exact hS0.out
              clear herr hb0
              obtain ⟨hc0, hc1⟩ := hc1
              obtain ⟨fr, hfr⟩ : ∃ fr, k - cur.length = fr := ⟨_, rfl⟩
              rw [hfr] at hc1 ⊢
              have f1 : fr + cur.length = k := by omega
              have f2 : fr ≤ k := by omega
              by_cases hk0 : k = 0
              · have hcn : cur = [] := List.eq_nil_of_length_eq_zero (by omega)
                rw [if_pos hcn] at hst
                have HST := hidden hst
                have hcl0 : cl.length = 0 := by omega
                have hfr0 : fr = 0 := by omega
                have t6 : decide (0 < k) = false := by rw [decide_eq_false_iff_not]; omega
                have t7 : ¬ (0 : Int) < (k : Int) := by omega
                have FR := hidden hfr0
                have HK := hidden hk0
                have HTL := hidden htl
                clear hst hcn hc1 hc2 hfr hcl0 hfr0 hk0 f1 htl
                go_wp2
                go_roundw
                case rel =>
                  refine ⟨k + 1, by omega, by go_num, herr1.out, ?_, ?_, ?_, hB9.out⟩
                  · rw [HST.out, FR.out]; simp [HK.out]
                  · rw [HST.out]
                  · rw [HST.out]; exact hO9.out
                case measure => simp [intOf]; omega
              · have hcn : ¬ cur = [] := by
                  intro h
                  have := hc2 h
                  rw [this] at htl
                  exact hk0 htl.symm
                rw [if_neg hcn] at hst
                have t6 : decide (0 < k) = true := by rw [decide_eq_true_eq]; omega
                have t7 : (0 : Int) < (k : Int) := by omega
                by_cases hbb : b = bg
                · rw [if_pos hbb] at hst
                  have HST := hidden hst
                  have t8 : (b != bg) = false := by simp [hbb]
                  have HBB := hidden hbb
                  have F1 := hidden f1
                  clear hst hcn hc1 hc2 hfr hk0 hbb f1 htl
                  go_wp2
                  go_roundw
                  case rel =>
                    refine ⟨k + 1, by omega, by go_num, herr1.out, ?_, ?_, ?_, hB9.out⟩
                    · rw [HST.out, List.length_append, List.length_singleton]; have := F1.out; congr 2; omega
                    · rw [HST.out, HBB.out]
                    · rw [HST.out]; exact hO9.out
                  case measure => simp [intOf]; omega
                · rw [if_neg hbb] at hst
                  have HST := hidden hst
                  have t8 : (b != bg) = true := by simp [hbb]
                  have F1 := hidden f1
                  have C1 := hidden hc1
                  have hcl : cur.length = k - fr := by omega
                  have HCL := hidden hcl
                  clear hst hcn hc2 hfr hk0 hbb f1 hc1 hcl htl
                  go_wp2_with fail
                  have hrw : Row w9 w9.heap.size 2 (some ⟨gs, o + fr * 2, none⟩) (k - fr) (smpCells cur) := by
                    have h1 := ((hr.below hB9.out).more hs9).cut (i := fr) (k := k) f2 hk
                    have h2 : ((smpCells l).drop (fr * 2)).take ((k - fr) * 2) = smpCells cur := by
                      rw [smpCells_cut]
                      rw [C1.out, List.drop_take]
                    rw [h2] at h1
                    exact h1
                  refine (fold_any bg _ (k - fr) (cap - fr) cur w9 hrw HCL.out (by omega) (fun s hs => hok s (List.mem_of_mem_take (List.mem_of_mem_drop (by rw [← C1.out]; exact hs))))).mono ?_
                  rintro e w10 ⟨f, hF, rfl, hb10⟩
                  rw [fold_is hF (fun s hs => hok s (List.mem_of_mem_take (List.mem_of_mem_drop (by rw [← C1.out]; exact hs))))]
                  have hW : refWin bg ((k - fr : Nat) : Int) (lastV cur) (vals cur) (vals cur) (vals cur) = smpWin (bg, cur) := by unfold smpWin; rw [HCL.out]
                  rw [hW]
                  have hB10 := hB9.out.trans (hb10.mono hs9)
                  have hO10 := own_below hO9.out hb10 (Nat.le_refl _)
                  have hs10 := hb10.size
                  generalize hw : smpWin (bg, cur) = W
                  have HW := hidden hw
                  clear hF hW hw hrw hb10
                  obtain ⟨p0, p1, p2, p3, p4, p5⟩ := W
                  rw [show (Win.mk p0 p1 p2 p3 p4 p5).cells.toArray = #[.int .i64 p0, .int .i64 p1, .int .u64 (p2 : Nat), .int .u64 (p3 : Nat), .int .u64 (p4 : Nat), .int .u64 (p5 : Nat)] from rfl]
                  have hB11 := hidden hB10
                  have hfr := Row.fresh w10 88 6 1 [.int .i64 p0, .int .i64 p1, .int .u64 (p2 : Nat), .int .u64 (p3 : Nat), .int .u64 (p4 : Nat), .int .u64 (p5 : Nat)] rfl
                  go_wp2_with (at_builtin; refine wpList_app _ rfl _ _ 44 rfl w.heap.size 88 i0 _ 6 48 Try.underlying44 hi iz0 iz1 iz2 rfl (by decide) _ _ _ rfl (hO10.alloc _) _ _ _ _ _ rfl hfr (by simp [Value.oneCell']) (by unfold maxLen; omega) (by omega) (by simp; omega) ?_; intro v1 w11 hown1 hg1 hat1)
                  go_roundw
                  case rel =>
                    refine ⟨k + 1, by omega, by go_num, herr1.out, ?_, ?_, ?_, ?_⟩
                    · rw [HST.out, List.length_singleton]; congr 2
                    · rw [HST.out]
                    · rw [HST.out, List.length_append, List.map_append, winCells_append]
                      rw [show winCells ([(bg, cur)].map smpWin) = [.int .i64 p0, .int .i64 p1, .int .u64 (p2 : Nat), .int .u64 (p3 : Nat), .int .u64 (p4 : Nat), .int .u64 (p5 : Nat)] from by rw [List.map_singleton, HW.out]; rfl]
                      exact hown1
                    · exact (hB11.out.alloc (by omega) _).grown hg1 (by simp; omega) (fun j hj => (hO10.lt j hj).1)
                  case measure => simp [intOf]; omega
            · have hE := hidden (errOf_at Smp.t (fun _ => 0) d hD.out (by rw [hL.out]; exact hlt) herr (by rw [hse]; decide))
              rw [hse] at hE
              have hE' : Hid (errOf Smp.t (fun _ => 0) d l = 90) := hE.out
              have hG : Hid (∀ w', GrpResS d l w.heap.size w' (.slice none 0 0)) := fun w' => by unfold GrpResS; rw [hE'.out, if_neg (by decide)]
              clear hse herr hE
              go_wp2
              go_ret2
              exact ⟨_, by rw [hE'.out]; rfl, hG.out _, hB8.out⟩
        · have hec1 : (ec != 0) = true := by simp [hec]
          have hse : stepErr Smp.t (fun _ => 0) d l k = ec := by rw [stepErr_eq Smp.t _ d hX.out hBG.out, if_pos hec]
          have hE := hidden (errOf_at Smp.t (fun _ => 0) d hD.out (by rw [hL.out]; exact hlt) herr (by rw [hse]; exact hec))
          rw [hse] at hE
          have hG : Hid (∀ w', GrpResS d l w.heap.size w' (.slice none 0 0)) := fun w' => by unfold GrpResS; rw [hE.out, if_neg hec]
          clear hec hse herr
          go_wp2
          go_ret2
          exact ⟨_, by rw [hE.out]; rfl, hG.out _, hB7.out⟩
      · obtain rfl : k = n := by omega
        rw [List.take_of_length_le (by rw [hL.out]; exact Nat.le_refl _)] at hown ⊢
        have hE := hidden (errOf_none Smp.t (fun _ => 0) d hD.out (by rw [hL.out]; exact herr))
        have hgr : groupsOf Smp.t d l = if (grpScan Smp.t d l).2.1 = [] then (grpScan Smp.t d l).1 else (grpScan Smp.t d l).1 ++ [((grpScan Smp.t d l).2.2, (grpScan Smp.t d l).2.1)] := rfl
        have hc1 := grpScan_cur Smp.t d l
        have hc2 := (grpScan_flat Smp.t d l).2
        have hc3 := grpScan_len Smp.t d l
        rw [hL.out] at hc1 hc3
        generalize grpScan Smp.t d l = s at hc1 hc2 hc3 hgr hown ⊢
        obtain ⟨cl, cur, bg⟩ := s
        simp only at hc1 hc2 hc3 hgr hown ⊢
        obtain ⟨hc0, hc1⟩ := hc1
        obtain ⟨fr, hfr⟩ : ∃ fr, k - cur.length = fr := ⟨_, rfl⟩
        rw [hfr] at hc1 ⊢
        have f1 : fr + cur.length = k := by omega
        have f2 : fr ≤ k := by omega
        by_cases hk0 : k = 0
        · have hcn : cur = [] := List.eq_nil_of_length_eq_zero (by omega)
          rw [if_pos hcn] at hgr
          have HG := hidden hgr
          have t7 : ¬ (0 : Int) < (k : Int) := by omega
          clear hgr hcn hc1 hc2 hfr hk0 f1 herr
          go_wp2
          go_ret2
          exact ⟨_, by rw [hE.out]; rfl, by unfold GrpResS; rw [hE.out, if_pos rfl, HG.out]; exact hown, hb⟩
        · have hcn : ¬ cur = [] := by
            intro h
            have := hc2 h
            rw [this] at hL
            exact hk0 hL.out.symm
          rw [if_neg hcn] at hgr
          have HG := hidden hgr
          have t7 : (0 : Int) < (k : Int) := by omega
          have hcl : cur.length = k - fr := by omega
          have hclp : 0 < cur.length := by
            rcases Nat.eq_zero_or_pos cur.length with h | h
            · exact absurd (List.eq_nil_of_length_eq_zero h) hcn
            · exact h
          have f3 : fr < k := by omega
          have HCL := hidden hcl
          have C1 := hidden hc1
          obtain ⟨gs, o, rfl, hgs, _⟩ := hr.at_ (by omega)
          have hbs := hb.size
          clear hgr hcn hc1 hc2 hfr hk0 f1 herr hcl
          go_wp2_with fail
          have hrw : Row wr wr.heap.size 2 (some ⟨gs, o + fr * 2, none⟩) (k - fr) (smpCells cur) := by
            have h1 := ((hr.below hb).more hbs).cut (i := fr) (k := k) f2 (Nat.le_refl _)
            have h2 : ((smpCells l).drop (fr * 2)).take ((k - fr) * 2) = smpCells cur := by
              rw [smpCells_cut, C1.out, List.take_of_length_le (by rw [List.length_drop, hL.out]; exact Nat.le_refl _)]
            rw [h2] at h1
            exact h1
          refine (fold_any bg _ (k - fr) (cap - fr) cur wr hrw HCL.out (by omega) (fun s hs => hok s (List.mem_of_mem_drop (by rw [← C1.out]; exact hs)))).mono ?_
          rintro e w10 ⟨f, hF, rfl, hb10⟩
          rw [fold_is hF (fun s hs => hok s (List.mem_of_mem_drop (by rw [← C1.out]; exact hs)))]
          have hW : refWin bg ((k - fr : Nat) : Int) (lastV cur) (vals cur) (vals cur) (vals cur) = smpWin (bg, cur) := by unfold smpWin; rw [HCL.out]
          rw [hW]
          have hB10 := hb.trans (hb10.mono hbs)
          have hO10 := own_below hown hb10 (Nat.le_refl _)
          have hs10 := hb10.size
          generalize hw : smpWin (bg, cur) = W
          have HW := hidden hw
          clear hF hW hw hrw hb10 hb hown
          obtain ⟨p0, p1, p2, p3, p4, p5⟩ := W
          rw [show (Win.mk p0 p1 p2 p3 p4 p5).cells.toArray = #[.int .i64 p0, .int .i64 p1, .int .u64 (p2 : Nat), .int .u64 (p3 : Nat), .int .u64 (p4 : Nat), .int .u64 (p5 : Nat)] from rfl]
          have hB11 := hidden hB10
          have hfr := Row.fresh w10 88 6 1 [.int .i64 p0, .int .i64 p1, .int .u64 (p2 : Nat), .int .u64 (p3 : Nat), .int .u64 (p4 : Nat), .int .u64 (p5 : Nat)] rfl
          have hcl2 : cl.length + 1 ≤ k := by
            have := grp_count Smp.t d l
            rw [HG.out, List.length_append, List.length_singleton, hL.out] at this
            exact this
          go_wp2_with (at_builtin; refine wpList_app _ rfl _ _ 44 rfl w.heap.size 88 i0 _ 6 48 Try.underlying44 hi iz0 iz1 iz2 rfl (by decide) _ _ _ rfl (hO10.alloc _) _ _ _ _ _ rfl hfr (by simp [Value.oneCell']) (by unfold maxLen; omega) (by omega) (by simp; omega) ?_; intro v1 w11 hown1 hg1 hat1)
          go_ret2
          refine ⟨_, by rw [hE.out]; rfl, ?_, (hB11.out.alloc (by omega) _).grown hg1 (by simp; omega) (fun j hj => (hO10.lt j hj).1)⟩
          unfold GrpResS
          rw [hE.out, if_pos rfl, HG.out, List.length_append, List.map_append, winCells_append]
          rw [show winCells ([(bg, cur)].map smpWin) = [.int .i64 p0, .int .i64 p1, .int .u64 (p2 : Nat), .int .u64 (p3 : Nat), .int .u64 (p4 : Nat), .int .u64 (p5 : Nat)] from by rw [List.map_singleton, HW.out]; rfl]
          exact hown1

end Go.Proofs.Ytohocdbneopooaa

namespace Go.Proofs.Ytohocdbneopooaa
set_option maxRecDepth 100000
open Go.RowKit

/-- the wider windows of groups of windows -/
def winWin (g : Int × List Win) : Win := mergeWin g.1 g.2
theorem winCells_cut (l : List Win) (i m : Nat) : ((winCells l).drop (i * 6)).take (m * 6) = winCells ((l.drop i).take m) := by
  have hd : ∀ (l : List Win) (i : Nat), (winCells l).drop (i * 6) = winCells (l.drop i) := by
    intro l
    induction l with
    | nil => intro i; simp [winCells]
    | cons a l ih =>
      intro i
      cases i with
      | zero => simp
      | succ i => rw [show (i + 1) * 6 = i * 6 + 1 + 1 + 1 + 1 + 1 + 1 from by omega, winCells_cons]; simpa using ih i
  have ht : ∀ (l : List Win) (m : Nat), (winCells l).take (m * 6) = winCells (l.take m) := by
    intro l
    induction l with
    | nil => intro i; simp [winCells]
    | cons a l ih =>
      intro i
      cases i with
      | zero => simp [winCells]
      | succ i =>
        show List.take _ (winCells (a :: l)) = winCells (a :: l.take i)
        rw [show (i + 1) * 6 = i * 6 + 1 + 1 + 1 + 1 + 1 + 1 from by omega, winCells_cons, winCells_cons]; simpa using ih i
  rw [hd, ht]

/-- what grouped answers: the windows, or none beside an error -/
def GrpResW (d : Int) (l : List Win) (B : Nat) (w' : World) (v : Value) : Prop :=
  if errOf Win.start badWin d l = 0 then w'.ownsRow B 88 6 v (groupsOf Win.start d l).length (winCells ((groupsOf Win.start d l).map winWin)) else v = .slice none 0 0

set_option maxRecDepth 100000 in
set_option maxHeartbeats 3200000 in
theorem groupedW_any (d : Int) (A : Option Addr) (n cap : Nat) (l : List Win) (w : World) (hr : Row w w.heap.size 6 A n (winCells l)) (hl : l.length = n) (hnc : n ≤ cap) (hn : n * 48 ≤ 140737488351232) (hok : ∀ s ∈ l, s.ok) :
    Calls Try.prog 97 #[.int .i64 d, .slice A n cap, .func (.func 98) #[] #[], .func (.func 99) #[] #[], .func (.func 100) #[] #[]] w
      fun e w' => ∃ v, e = .returned (.tuple #[v, .int .i64 (errOf Win.start badWin d l)]) ∧ GrpResW d l w.heap.size w' v ∧ Below w.heap.size w w' := by
  obtain ⟨i0, hi, iz0, iz1, iz2⟩ := info_parts info_win
  by_cases hd : d < 1 ∨ 1099511627776 < d
  · have hE := hidden (errOf_width Win.start badWin d l hd)
    have hG : Hid (∀ w', GrpResW d l w.heap.size w' (.slice none 0 0)) := fun w' => by unfold GrpResW; rw [hE.out, if_neg (by decide)]
    rcases hd with h | h
    · go_enter Try.func97, Try.ntmps97
      go_wp2
      go_ret2
      exact ⟨_, by rw [hE.out]; rfl, hG.out _, Below.refl _ _⟩
    · have h' : ¬ d < 1 := by omega
      go_enter Try.func97, Try.ntmps97
      go_wp2
      go_ret2
      exact ⟨_, by rw [hE.out]; rfl, hG.out _, Below.refl _ _⟩
  · have d1 : 1 ≤ d := by omega
    have d2 : d ≤ 1099511627776 := by omega
    have hD := hidden hd
    clear hd
    have hL := hidden hl
    clear hl
    go_enter Try.func97, Try.ntmps97
    go_wp2
    go_loopw [12, 13, 14, 28] (fun out from_ begin i wr => ∃ k : Nat, k ≤ n ∧ i = .int .i64 k ∧ (∀ j, j < k → stepErr Win.start badWin d l j = 0) ∧
        from_ = .int .i64 ((k - (grpScan Win.start d (l.take k)).2.1.length : Nat) : Int) ∧ begin = .int .i64 (grpScan Win.start d (l.take k)).2.2 ∧ wr.ownsRow w.heap.size 88 6 out (grpScan Win.start d (l.take k)).1.length (winCells ((grpScan Win.start d (l.take k)).1.map winWin)) ∧ Below w.heap.size w wr) (fun _ _ _ i _ => n - (intOf i).toNat)
    case atStart => exact ⟨0, Nat.zero_le _, rfl, fun j hj => absurd hj (by omega), rfl, rfl, World.ownsRow_nil _ _ _ _, Below.refl _ _⟩
    case round =>
      obtain ⟨k, hk, rfl, herr, rfl, rfl, hown, hb⟩ := hrel
      by_cases hlt : k < n
      · obtain ⟨gs, o, rfl, hgs, x, hx, c0, c1, c2, c3, c4, c5⟩ := win_cells_at hr hL.out hb k hlt
        have hT := hidden (take_snoc? hx)
        have hX := hidden hx
        clear hx
        obtain ⟨xt, xc, xs, xm, xM, xl⟩ := x
        simp only at c0 c1 c2 c3 c4 c5
        have hbs := hb.size
        have hxb : Whole1 (wr.alloc (Obj.cells #[.int .i64 xt, .int .i64 xc, .int .u64 ((xs : Nat) : Int), .int .u64 ((xm : Nat) : Int), .int .u64 ((xM : Nat) : Int), .int .u64 ((xl : Nat) : Int)] 88)) wr.heap.size 88 #[.int .i64 xt, .int .i64 xc, .int .u64 ((xs : Nat) : Int), .int .u64 ((xm : Nat) : Int), .int .u64 ((xM : Nat) : Int), .int .u64 ((xl : Nat) : Int)] := Whole1.new _ _ _
        have hb1 := hb.alloc hb.size (Obj.cells #[.int .i64 xt, .int .i64 xc, .int .u64 ((xs : Nat) : Int), .int .u64 ((xm : Nat) : Int), .int .u64 ((xM : Nat) : Int), .int .u64 ((xl : Nat) : Int)] 88)
        have hO1 := hidden (hown.alloc (Obj.cells #[.int .i64 xt, .int .i64 xc, .int .u64 ((xs : Nat) : Int), .int .u64 ((xm : Nat) : Int), .int .u64 ((xM : Nat) : Int), .int .u64 ((xl : Nat) : Int)] 88))
        have hX0 := hidden hxb
        have hB1 := hidden hb1
        clear hxb hb1
        have hlen : (⟨xt, xc, xs, xm, xM, xl⟩ : Win).start = xt := rfl
        go_upto_region 8 with (fail)
        have hX1 := hX0.out
        have hB2 := hB1.out
        have hO2 := hO1.out
        have hs2 : w.heap.size ≤ (wr.alloc (Obj.cells #[.int .i64 xt, .int .i64 xc, .int .u64 ((xs : Nat) : Int), .int .u64 ((xm : Nat) : Int), .int .u64 ((xM : Nat) : Int), .int .u64 ((xl : Nat) : Int)] 88)).heap.size := by simp; omega
        clear hX0 hB1 hO1 c0 c1 c2 c3 c4 c5 hown hb
        generalize wr.alloc _ = w5 at hX1 hB2 hO2 hs2 ⊢
        have x0 : w5.cell? ⟨wr.heap.size, 0, none⟩ = some (.int .i64 xt) := hX1.cell 0
        have x1 : w5.cell? ⟨wr.heap.size, 1, none⟩ = some (.int .i64 xc) := hX1.cell 1
        have x2 : w5.cell? ⟨wr.heap.size, 2, none⟩ = some (.int .u64 ((xs : Nat) : Int)) := hX1.cell 2
        have x3 : w5.cell? ⟨wr.heap.size, 3, none⟩ = some (.int .u64 ((xm : Nat) : Int)) := hX1.cell 3
        have x4 : w5.cell? ⟨wr.heap.size, 4, none⟩ = some (.int .u64 ((xM : Nat) : Int)) := hX1.cell 4
        have x5 : w5.cell? ⟨wr.heap.size, 5, none⟩ = some (.int .u64 ((xl : Nat) : Int)) := hX1.cell 5
        have hX0 := hidden hX1
        have hB0 := hidden hB2
        have hO0 := hidden hO2
        clear hX1 hB2 hO2
        go_wp2_with fail
        refine (windowTime_any ⟨xt, xc, xs, xm, xM, xl⟩ _).mono ?_
        rintro e w6 ⟨rfl, hb6⟩
        have hX6 := hX0.out.below hb6 hX0.out.lt
        have hB6 := hB0.out.trans (hb6.mono hs2)
        have hO6 := own_below hO0.out hb6 (Nat.le_refl _)
        have hs6 := hb6.size
        have y0 : w6.cell? ⟨wr.heap.size, 0, none⟩ = some (.int .i64 xt) := hX6.cell 0
        have y1 : w6.cell? ⟨wr.heap.size, 1, none⟩ = some (.int .i64 xc) := hX6.cell 1
        have y2 : w6.cell? ⟨wr.heap.size, 2, none⟩ = some (.int .u64 ((xs : Nat) : Int)) := hX6.cell 2
        have y3 : w6.cell? ⟨wr.heap.size, 3, none⟩ = some (.int .u64 ((xm : Nat) : Int)) := hX6.cell 3
        have y4 : w6.cell? ⟨wr.heap.size, 4, none⟩ = some (.int .u64 ((xM : Nat) : Int)) := hX6.cell 4
        have y5 : w6.cell? ⟨wr.heap.size, 5, none⟩ = some (.int .u64 ((xl : Nat) : Int)) := hX6.cell 5
        have hX7 := hidden hX6
        have hB7 := hidden hB6
        have hO7 := hidden hO6
        clear hX6 hB6 hO6 hb6 x0 x1 x2 x3 x4 x5 hX0 hB0 hO0
        generalize hbg : beginOf xt d = bg
        have hBG := hidden hbg
        clear hbg
        obtain ⟨b, ec⟩ := bg
        go_wp2_with fail
        refine (start_any xt d _).mono ?_
        rw [hBG.out]
        rintro e w7 ⟨rfl, rfl⟩
        by_cases hec : ec = 0
        · have hec1 : (ec != 0) = false := by simp [hec]
          have HEC := hidden hec
          clear hec
          go_upto_region 11 with (fail)
          go_cut [45] (fun v wx => v = .bool (ordB Win.start l k xt) ∧ Below w6.heap.size w6 wx)
          case first =>
            by_cases hk0 : k = 0
            · subst hk0
              have hg0 : (decide ((0 : Int) < ((0 : Nat) : Int))) = false := by decide
              go_quiet (fail)
              go_wp2_with fail
              go_meet
              exact ⟨rfl, below_drewN (Below.refl _ _) _⟩
            · obtain ⟨j, hj⟩ : ∃ j, k = j + 1 := ⟨k - 1, by omega⟩
              obtain ⟨gs', o', hA, _, z, hz, e0, e1, e2, e3, e4, e5⟩ := win_cells_at hr hL.out hB7.out j (by omega)
              injection hA with hA
              injection hA with hA1 hA2
              subst hA1 hA2
              have hz0 := hidden hz
              clear hz
              obtain ⟨zt, zc, zs, zm, zM, zl⟩ := z
              simp only at e0 e1 e2 e3 e4 e5
              have t3 : IntKind.i64.wrap ((k : Int) - 1) = (j : Int) := by rw [IntKind.wrap_i64]; omega
              have t4 : (j : Int) < (n : Int) := by omega
              have t5 : (0 : Int) ≤ (j : Int) := by omega
              have t6 : decide (0 < k) = true := by rw [decide_eq_true_eq]; omega
              have hj0 := hidden hj
              clear hj hk0
              have k0 := cell_regrown e0
              have k1 := cell_regrown e1
              have k2 := cell_regrown e2
              have k3 := cell_regrown e3
              have k4 := cell_regrown e4
              have k5 := cell_regrown e5
              have k6 := cell_regrown y0
              have k7 := cell_regrown y1
              have k8 := cell_regrown y2
              have k9 := cell_regrown y3
              have k10 := cell_regrown y4
              have k11 := cell_regrown y5
              have s1 : ∀ D os, Calls Try.prog 98 #[.agg #[.int .i64 zt, .int .i64 zc, .int .u64 ((zs : Nat) : Int), .int .u64 ((zm : Nat) : Int), .int .u64 ((zM : Nat) : Int), .int .u64 ((zl : Nat) : Int)]] (Sort.grow (redrawn w6 D) os) fun e w'' => e = .returned (.int .i64 zt) ∧ ∃ p : Regrown, w'' = Sort.grow (redrawn w6 p.d) p.os := fun D os => Calls.regrown_of (windowTime_any ⟨zt, zc, zs, zm, zM, zl⟩ _)
              have s2 : ∀ D os, Calls Try.prog 98 #[.agg #[.int .i64 xt, .int .i64 xc, .int .u64 ((xs : Nat) : Int), .int .u64 ((xm : Nat) : Int), .int .u64 ((xM : Nat) : Int), .int .u64 ((xl : Nat) : Int)]] (Sort.grow (redrawn w6 D) os) fun e w'' => e = .returned (.int .i64 xt) ∧ ∃ p : Regrown, w'' = Sort.grow (redrawn w6 p.d) p.os := fun D os => Calls.regrown_of (windowTime_any ⟨xt, xc, xs, xm, xM, xl⟩ _)
              have S1 := hidden s1
              have S2 := hidden s2
              clear s1 s2 e0 e1 e2 e3 e4 e5 y0 y1 y2 y3 y4 y5
              refine wp_region_quiet_below (by kernel_rfl) (by kernel_rfl) ?_
              repeat (first | go_big_quiet_step (first | exact S1.out _ _ | exact S2.out _ _) | quiet_step (first | exact S1.out _ _ | exact S2.out _ _))
              refine wpQuiet_nil ?_
              intro _ hw'
              obtain ⟨⟨dq, osq⟩, hw''⟩ := hw'
              subst hw''
              go_wp2_with fail
              go_meet
              exact ⟨by rw [hj0.out, ordB_succ Win.start hz0.out], below_regrown _ _ _⟩
          case rest =>
            obtain ⟨rfl, hb8⟩ := hcut
            have hB8 := hidden (hB7.out.trans (hb8.mono (Nat.le_trans hs2 hs6)))
            have hO8 := hidden (own_below hO7.out hb8 (Nat.le_refl _))
            have hX8 := hidden (hX7.out.below hb8 hX7.out.lt)
            have hs8 := hb8.size
            clear hB7 hO7 hX7 hb8 y0 y1 y2 y3 y4 y5
            have hse := stepErr_eq Win.start badWin d hX.out hBG.out
            rw [if_neg (by rw [HEC.out]; decide)] at hse
            generalize hob : ordB Win.start l k xt = ob at hse
            have HOB := hidden hob
            clear hob
            cases ob
            · rw [if_neg (by decide)] at hse
              have HSE := hidden hse
              clear hse
              have z0 : wc.cell? ⟨wr.heap.size, 0, none⟩ = some (.int .i64 xt) := hX8.out.cell 0
              have z1 : wc.cell? ⟨wr.heap.size, 1, none⟩ = some (.int .i64 xc) := hX8.out.cell 1
              have z2 : wc.cell? ⟨wr.heap.size, 2, none⟩ = some (.int .u64 ((xs : Nat) : Int)) := hX8.out.cell 2
              have z3 : wc.cell? ⟨wr.heap.size, 3, none⟩ = some (.int .u64 ((xm : Nat) : Int)) := hX8.out.cell 3
              have z4 : wc.cell? ⟨wr.heap.size, 4, none⟩ = some (.int .u64 ((xM : Nat) : Int)) := hX8.out.cell 4
              have z5 : wc.cell? ⟨wr.heap.size, 5, none⟩ = some (.int .u64 ((xl : Nat) : Int)) := hX8.out.cell 5
              go_wp2_with fail
              refine (counted_any ⟨xt, xc, xs, xm, xM, xl⟩ _).mono ?_
              rintro e w9 ⟨rfl, hb9⟩
              have hse := HSE.out
              clear HSE
              generalize badWin ⟨xt, xc, xs, xm, xM, xl⟩ = bw at hse ⊢
              have hB9 := hidden (hB8.out.trans (hb9.mono (Nat.le_trans (Nat.le_trans hs2 hs6) hs8)))
              have hO9 := hidden (own_below hO8.out hb9 (Nat.le_refl _))
              have hs9 : w.heap.size ≤ w9.heap.size := by have := hb9.size; omega
              clear hb9 hB8 hO8 hX8 z0 z1 z2 z3 z4 z5
              by_cases hbw : ¬ bw = 0
              · have hE := hidden (errOf_at Win.start badWin d hD.out (by rw [hL.out]; exact hlt) herr (by rw [hse]; exact hbw))
                have hE' : Hid (errOf Win.start badWin d l = bw) := by have := hE.out; rw [hse] at this; exact this
                have hG : Hid (∀ w', GrpResW d l w.heap.size w' (.slice none 0 0)) := fun w' => by unfold GrpResW; rw [hE'.out, if_neg hbw]
                have hbw1 : (bw != 0) = true := by simp [hbw]
                clear hse herr hE hbw
                go_wp2
                go_ret2
                exact ⟨_, by rw [hE'.out]; rfl, hG.out _, hB9.out⟩
              have hbw1 : bw = 0 := by omega
              clear hbw
              subst hbw1
              have hS0 := hidden hse
              clear hse
              have htl : (l.take k).length = k := by rw [List.length_take, hL.out]; omega
              have hc1 := grpScan_cur Win.start d (l.take k)
              have hc2 := (grpScan_flat Win.start d (l.take k)).2
              have hc3 := grpScan_len Win.start d (l.take k)
              have hst := grpScan_snoc Win.start d (l.take k) ⟨xt, xc, xs, xm, xM, xl⟩
              rw [htl] at hc1 hc3
              rw [← hT.out] at hst
              generalize grpScan Win.start d (l.take k) = s at hc1 hc2 hc3 hst hO9 ⊢
              obtain ⟨cl, cur, bg⟩ := s
              simp only at hc1 hc2 hc3 hst hO9 ⊢
              unfold grpStep at hst
              simp only at hst
              have hb0 : b = xt / d * d := by
                have h1 := hBG.out
                have h2 := HEC.out
                unfold beginOf at h1
                rw [if_neg hD.out] at h1
                split at h1
                · injection h1 with h3 h4; omega
                · injection h1 with h3 h4; exact h3.symm
              rw [← hb0] at hst
              have herr1 : Hid (∀ j, j < k + 1 → stepErr Win.start badWin d l j = 0) := fun j hj => by
                rcases Nat.lt_or_ge j k with h | h
                · exact herr j h
                · have : j = k := by omega
                  subst this; exact hS0.out
              clear herr hb0
              obtain ⟨hc0, hc1⟩ := hc1
              obtain ⟨fr, hfr⟩ : ∃ fr, k - cur.length = fr := ⟨_, rfl⟩
              rw [hfr] at hc1 ⊢
              have f1 : fr + cur.length = k := by omega
              have f2 : fr ≤ k := by omega
              by_cases hk0 : k = 0
              · have hcn : cur = [] := List.eq_nil_of_length_eq_zero (by omega)
                rw [if_pos hcn] at hst
                have HST := hidden hst
                have hcl0 : cl.length = 0 := by omega
                have hfr0 : fr = 0 := by omega
                have t6 : decide (0 < k) = false := by rw [decide_eq_false_iff_not]; omega
                have t7 : ¬ (0 : Int) < (k : Int) := by omega
                have FR := hidden hfr0
                have HK := hidden hk0
                have HTL := hidden htl
                clear hst hcn hc1 hc2 hfr hcl0 hfr0 hk0 f1 htl
                go_wp2
                go_roundw
                case rel =>
                  refine ⟨k + 1, by omega, by go_num, herr1.out, ?_, ?_, ?_, hB9.out⟩
                  · rw [HST.out, FR.out]; simp [HK.out]
                  · rw [HST.out]
                  · rw [HST.out]; exact hO9.out
                case measure => simp [intOf]; omega
              · have hcn : ¬ cur = [] := by
                  intro h
                  have := hc2 h
                  rw [this] at htl
                  exact hk0 htl.symm
                rw [if_neg hcn] at hst
                have t6 : decide (0 < k) = true := by rw [decide_eq_true_eq]; omega
                have t7 : (0 : Int) < (k : Int) := by omega
                by_cases hbb : b = bg
                · rw [if_pos hbb] at hst
                  have HST := hidden hst
                  have t8 : (b != bg) = false := by simp [hbb]
                  have HBB := hidden hbb
                  have F1 := hidden f1
                  clear hst hcn hc1 hc2 hfr hk0 hbb f1 htl
                  go_wp2
                  go_roundw
                  case rel =>
                    refine ⟨k + 1, by omega, by go_num, herr1.out, ?_, ?_, ?_, hB9.out⟩
                    · rw [HST.out, List.length_append, List.length_singleton]; have := F1.out; congr 2; omega
                    · rw [HST.out, HBB.out]
                    · rw [HST.out]; exact hO9.out
                  case measure => simp [intOf]; omega
                · rw [if_neg hbb] at hst
                  have HST := hidden hst
                  have t8 : (b != bg) = true := by simp [hbb]
                  have F1 := hidden f1
                  have C1 := hidden hc1
                  have hcl : cur.length = k - fr := by omega
                  have HCL := hidden hcl
                  clear hst hcn hc2 hfr hk0 hbb f1 hc1 hcl htl
                  go_wp2_with fail
                  have hrw : Row w9 w9.heap.size 6 (some ⟨gs, o + fr * 6, none⟩) (k - fr) (winCells cur) := by
                    have h1 := ((hr.below hB9.out).more hs9).cut (i := fr) (k := k) f2 hk
                    have h2 : ((winCells l).drop (fr * 6)).take ((k - fr) * 6) = winCells cur := by
                      rw [winCells_cut]
                      rw [C1.out, List.drop_take]
                    rw [h2] at h1
                    exact h1
                  refine (merge_any bg _ (k - fr) (cap - fr) cur w9 hrw HCL.out (by omega) (fun s hs => hok s (List.mem_of_mem_take (List.mem_of_mem_drop (by rw [← C1.out]; exact hs))))).mono ?_
                  rintro e w10 ⟨f, hF, rfl, hb10⟩
                  rw [merge_is hF (fun s hs => hok s (List.mem_of_mem_take (List.mem_of_mem_drop (by rw [← C1.out]; exact hs))))]
                  have hB10 := hB9.out.trans (hb10.mono hs9)
                  have hO10 := own_below hO9.out hb10 (Nat.le_refl _)
                  have hs10 := hb10.size
                  generalize hw : mergeWin bg cur = W
                  have HW := hidden hw
                  clear hF hw hrw hb10
                  obtain ⟨p0, p1, p2, p3, p4, p5⟩ := W
                  rw [show (Win.mk p0 p1 p2 p3 p4 p5).cells.toArray = #[.int .i64 p0, .int .i64 p1, .int .u64 (p2 : Nat), .int .u64 (p3 : Nat), .int .u64 (p4 : Nat), .int .u64 (p5 : Nat)] from rfl]
                  have hB11 := hidden hB10
                  have hfr := Row.fresh w10 88 6 1 [.int .i64 p0, .int .i64 p1, .int .u64 (p2 : Nat), .int .u64 (p3 : Nat), .int .u64 (p4 : Nat), .int .u64 (p5 : Nat)] rfl
                  go_wp2_with (at_builtin; refine wpList_app _ rfl _ _ 44 rfl w.heap.size 88 i0 _ 6 48 Try.underlying44 hi iz0 iz1 iz2 rfl (by decide) _ _ _ rfl (hO10.alloc _) _ _ _ _ _ rfl hfr (by simp [Value.oneCell']) (by unfold maxLen; omega) (by omega) (by simp; omega) ?_; intro v1 w11 hown1 hg1 hat1)
                  go_roundw
                  case rel =>
                    refine ⟨k + 1, by omega, by go_num, herr1.out, ?_, ?_, ?_, ?_⟩
                    · rw [HST.out, List.length_singleton]; congr 2
                    · rw [HST.out]
                    · rw [HST.out, List.length_append, List.map_append, winCells_append]
                      rw [show winCells ([(bg, cur)].map winWin) = [.int .i64 p0, .int .i64 p1, .int .u64 (p2 : Nat), .int .u64 (p3 : Nat), .int .u64 (p4 : Nat), .int .u64 (p5 : Nat)] from by rw [List.map_singleton]; show winCells [mergeWin bg cur] = _; rw [HW.out]; rfl]
                      exact hown1
                    · exact (hB11.out.alloc (by omega) _).grown hg1 (by simp; omega) (fun j hj => (hO10.lt j hj).1)
                  case measure => simp [intOf]; omega
            · have hE := hidden (errOf_at Win.start badWin d hD.out (by rw [hL.out]; exact hlt) herr (by rw [hse, if_pos rfl]; decide))
              rw [hse] at hE
              have hE' : Hid (errOf Win.start badWin d l = 90) := hE.out
              have hG : Hid (∀ w', GrpResW d l w.heap.size w' (.slice none 0 0)) := fun w' => by unfold GrpResW; rw [hE'.out, if_neg (by decide)]
              clear hse herr hE
              go_wp2
              go_ret2
              exact ⟨_, by rw [hE'.out]; rfl, hG.out _, hB8.out⟩
        · have hec1 : (ec != 0) = true := by simp [hec]
          have hse : stepErr Win.start badWin d l k = ec := by rw [stepErr_eq Win.start _ d hX.out hBG.out, if_pos hec]
          have hE := hidden (errOf_at Win.start badWin d hD.out (by rw [hL.out]; exact hlt) herr (by rw [hse]; exact hec))
          rw [hse] at hE
          have hG : Hid (∀ w', GrpResW d l w.heap.size w' (.slice none 0 0)) := fun w' => by unfold GrpResW; rw [hE.out, if_neg hec]
          clear hec hse herr
          go_wp2
          go_ret2
          exact ⟨_, by rw [hE.out]; rfl, hG.out _, hB7.out⟩
      · obtain rfl : k = n := by omega
        rw [List.take_of_length_le (by rw [hL.out]; exact Nat.le_refl _)] at hown ⊢
        have hE := hidden (errOf_none Win.start badWin d hD.out (by rw [hL.out]; exact herr))
        have hgr : groupsOf Win.start d l = if (grpScan Win.start d l).2.1 = [] then (grpScan Win.start d l).1 else (grpScan Win.start d l).1 ++ [((grpScan Win.start d l).2.2, (grpScan Win.start d l).2.1)] := rfl
        have hc1 := grpScan_cur Win.start d l
        have hc2 := (grpScan_flat Win.start d l).2
        have hc3 := grpScan_len Win.start d l
        rw [hL.out] at hc1 hc3
        generalize grpScan Win.start d l = s at hc1 hc2 hc3 hgr hown ⊢
        obtain ⟨cl, cur, bg⟩ := s
        simp only at hc1 hc2 hc3 hgr hown ⊢
        obtain ⟨hc0, hc1⟩ := hc1
        obtain ⟨fr, hfr⟩ : ∃ fr, k - cur.length = fr := ⟨_, rfl⟩
        rw [hfr] at hc1 ⊢
        have f1 : fr + cur.length = k := by omega
        have f2 : fr ≤ k := by omega
        by_cases hk0 : k = 0
        · have hcn : cur = [] := List.eq_nil_of_length_eq_zero (by omega)
          rw [if_pos hcn] at hgr
          have HG := hidden hgr
          have t7 : ¬ (0 : Int) < (k : Int) := by omega
          clear hgr hcn hc1 hc2 hfr hk0 f1 herr
          go_wp2
          go_ret2
          exact ⟨_, by rw [hE.out]; rfl, by unfold GrpResW; rw [hE.out, if_pos rfl, HG.out]; exact hown, hb⟩
        · have hcn : ¬ cur = [] := by
            intro h
            have := hc2 h
            rw [this] at hL
            exact hk0 hL.out.symm
          rw [if_neg hcn] at hgr
          have HG := hidden hgr
          have t7 : (0 : Int) < (k : Int) := by omega
          have hcl : cur.length = k - fr := by omega
          have hclp : 0 < cur.length := by
            rcases Nat.eq_zero_or_pos cur.length with h | h
            · exact absurd (List.eq_nil_of_length_eq_zero h) hcn
            · exact h
          have f3 : fr < k := by omega
          have HCL := hidden hcl
          have C1 := hidden hc1
          obtain ⟨gs, o, rfl, hgs, _⟩ := hr.at_ (by omega)
          have hbs := hb.size
          clear hgr hcn hc1 hc2 hfr hk0 f1 herr hcl
          go_wp2_with fail
          have hrw : Row wr wr.heap.size 6 (some ⟨gs, o + fr * 6, none⟩) (k - fr) (winCells cur) := by
            have h1 := ((hr.below hb).more hbs).cut (i := fr) (k := k) f2 (Nat.le_refl _)
            have h2 : ((winCells l).drop (fr * 6)).take ((k - fr) * 6) = winCells cur := by
              rw [winCells_cut, C1.out, List.take_of_length_le (by rw [List.length_drop, hL.out]; exact Nat.le_refl _)]
            rw [h2] at h1
            exact h1
          refine (merge_any bg _ (k - fr) (cap - fr) cur wr hrw HCL.out (by omega) (fun s hs => hok s (List.mem_of_mem_drop (by rw [← C1.out]; exact hs)))).mono ?_
          rintro e w10 ⟨f, hF, rfl, hb10⟩
          rw [merge_is hF (fun s hs => hok s (List.mem_of_mem_drop (by rw [← C1.out]; exact hs)))]
          have hB10 := hb.trans (hb10.mono hbs)
          have hO10 := own_below hown hb10 (Nat.le_refl _)
          have hs10 := hb10.size
          generalize hw : mergeWin bg cur = W
          have HW := hidden hw
          clear hF hw hrw hb10 hb hown
          obtain ⟨p0, p1, p2, p3, p4, p5⟩ := W
          rw [show (Win.mk p0 p1 p2 p3 p4 p5).cells.toArray = #[.int .i64 p0, .int .i64 p1, .int .u64 (p2 : Nat), .int .u64 (p3 : Nat), .int .u64 (p4 : Nat), .int .u64 (p5 : Nat)] from rfl]
          have hB11 := hidden hB10
          have hfr := Row.fresh w10 88 6 1 [.int .i64 p0, .int .i64 p1, .int .u64 (p2 : Nat), .int .u64 (p3 : Nat), .int .u64 (p4 : Nat), .int .u64 (p5 : Nat)] rfl
          have hcl2 : cl.length + 1 ≤ k := by
            have := grp_count Win.start d l
            rw [HG.out, List.length_append, List.length_singleton, hL.out] at this
            exact this
          go_wp2_with (at_builtin; refine wpList_app _ rfl _ _ 44 rfl w.heap.size 88 i0 _ 6 48 Try.underlying44 hi iz0 iz1 iz2 rfl (by decide) _ _ _ rfl (hO10.alloc _) _ _ _ _ _ rfl hfr (by simp [Value.oneCell']) (by unfold maxLen; omega) (by omega) (by simp; omega) ?_; intro v1 w11 hown1 hg1 hat1)
          go_ret2
          refine ⟨_, by rw [hE.out]; rfl, ?_, (hB11.out.alloc (by omega) _).grown hg1 (by simp; omega) (fun j hj => (hO10.lt j hj).1)⟩
          unfold GrpResW
          rw [hE.out, if_pos rfl, HG.out, List.length_append, List.map_append, winCells_append]
          rw [show winCells ([(bg, cur)].map winWin) = [.int .i64 p0, .int .i64 p1, .int .u64 (p2 : Nat), .int .u64 (p3 : Nat), .int .u64 (p4 : Nat), .int .u64 (p5 : Nat)] from by rw [List.map_singleton]; show winCells [mergeWin bg cur] = _; rw [HW.out]; rfl]
          exact hown1

end Go.Proofs.Ytohocdbneopooaa

namespace Go.Proofs.Ytohocdbneopooaa
set_option maxRecDepth 100000
open Go.RowKit

set_option maxHeartbeats 1600000 in
theorem windows_calls (d : Int) (A : Option Addr) (n cap : Nat) (l : List Smp) (w : World) (hr : Row w w.heap.size 2 A n (smpCells l)) (hl : l.length = n) (hnc : n ≤ cap) (hn : n * 48 ≤ 140737488351232) (hok : ∀ s ∈ l, s.ok) :
    Calls Try.prog 44 #[.int .i64 d, .slice A n cap] w
      fun e w' => ∃ v, e = .returned (.tuple #[v, .int .i64 (errOf Smp.t (fun _ => 0) d l)]) ∧ GrpResS d l w.heap.size w' v ∧ Below w.heap.size w w' := by
  have hL := hidden hl
  clear hl
  go_enter Try.func44, Try.ntmps44
  go_wp2_with fail
  refine (groupedS_any d A n cap l w hr hL.out hnc hn hok).mono ?_
  rintro e w1 ⟨v, rfl, hG, hb⟩
  have HG := hidden hG
  clear hG
  go_wp2
  go_ret2
  exact ⟨_, rfl, HG.out, hb⟩

set_option maxHeartbeats 1600000 in
theorem widen_calls (d : Int) (A : Option Addr) (n cap : Nat) (l : List Win) (w : World) (hr : Row w w.heap.size 6 A n (winCells l)) (hl : l.length = n) (hnc : n ≤ cap) (hn : n * 48 ≤ 140737488351232) (hok : ∀ s ∈ l, s.ok) :
    Calls Try.prog 50 #[.int .i64 d, .slice A n cap] w
      fun e w' => ∃ v, e = .returned (.tuple #[v, .int .i64 (errOf Win.start badWin d l)]) ∧ GrpResW d l w.heap.size w' v ∧ Below w.heap.size w w' := by
  have hL := hidden hl
  clear hl
  go_enter Try.func50, Try.ntmps50
  go_wp2_with fail
  refine (groupedW_any d A n cap l w hr hL.out hnc hn hok).mono ?_
  rintro e w1 ⟨v, rfl, hG, hb⟩
  have HG := hidden hG
  clear hG
  go_wp2
  go_ret2
  exact ⟨_, rfl, HG.out, hb⟩

end Go.Proofs.Ytohocdbneopooaa
