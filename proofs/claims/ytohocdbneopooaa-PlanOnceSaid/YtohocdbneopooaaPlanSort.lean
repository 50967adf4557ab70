/- slices.SortStableFunc at blocks' infos, with plan.order: what it leaves. Condition: the row is within the reach. -/
import Derived.Test.YtohocdbneopooaaStabTInfo
import Derived.Test.YtohocdbneopooaaClone
import Derived.Test.YtohocdbneopooaaFoldMerge
import Derived.StillTailTactics
namespace Go.Proofs.Ytohocdbneopooaa
set_option maxRecDepth 100000
open Go.Shelf Go.RowKit Go.Lib Go.Sort

/-- a block's info -/
structure Inf where
  id : Int
  res : Int
  frm : Int
  til : Int
  byt : Int
deriving Inhabited, DecidableEq
def Inf.cells (x : Inf) : List Value := [.int .i64 x.id, .int .i64 x.res, .int .i64 x.frm, .int .i64 x.til, .int .i64 x.byt]

theorem info_inf : (Try.prog.info? 71).map (fun i => (i.zero, i.size, i.bytes)) = some (some (.agg #[.int .i64 0, .int .i64 0, .int .i64 0, .int .i64 0, .int .i64 0]), 5, 40) := by kernel_rfl

theorem stabInfo_bears : StabInfo.Bears Try.prog 5 where
  mixed := by kernel_rfl
  fsw := Try.func163
  frot := Try.func158
  fsym := Try.func143
  fstab := Try.func124
  fsort := Try.func85
  esw := enters_of Try.func163 (by kernel_rfl) rfl
  erot := enters_of Try.func158 (by kernel_rfl) rfl
  esym := enters_of Try.func143 (by kernel_rfl) rfl
  estab := enters_of Try.func124 (by kernel_rfl) rfl
  eins := enters_of Try.func142 (by kernel_rfl) rfl
  t0 := by kernel_rfl
  a0 := fun w => by kernel_rfl
  z0 := fun w => by kernel_rfl
  v0 := fun w => by kernel_rfl
  t3 := by kernel_rfl
  a3 := fun w => by kernel_rfl
  z3 := fun w => by kernel_rfl
  v3 := fun w => by kernel_rfl
  t4 := by kernel_rfl
  a4 := fun w => by kernel_rfl
  z4 := fun w => by kernel_rfl
  v4 := fun w => by kernel_rfl
  tu := by kernel_rfl
  au := fun w => by kernel_rfl
  zu := fun w => by kernel_rfl
  vu := fun w => by kernel_rfl
  ts := by kernel_rfl
  as_ := fun w => by kernel_rfl
  zs := fun w => by kernel_rfl
  vs := fun w => by kernel_rfl
  tf := by kernel_rfl
  af := fun w => by kernel_rfl
  zf := fun w => by kernel_rfl
  vf := fun w => by kernel_rfl
  aE := fun w => by kernel_rfl
  zE := fun w => by kernel_rfl

/-- the numbers of this program, for the library's contract of the insertion sort -/
def renInfo : Ren := { f := fun n => if n = 20 then 142 else 0, t := fun n => if n = 0 then 0 else if n = 3 then 3 else if n = 4 then 4 else if n = 22 then 67 else if n = 24 then 71 else if n = 25 then 139 else 0, g := fun _ => 0 }
theorem insInfo_lays : SlLaysF0.n20 Try.prog renInfo where
  mixed := by kernel_rfl
  f20 := ⟨_, by kernel_rfl, Try.func142⟩
  t0 := by kernel_rfl
  a0 := fun w => by kernel_rfl
  z0 := fun w => by kernel_rfl
  v0 := fun w => by kernel_rfl
  t3 := by kernel_rfl
  a3 := fun w => by kernel_rfl
  z3 := fun w => by kernel_rfl
  v3 := fun w => by kernel_rfl
  t4 := by kernel_rfl
  a4 := fun w => by kernel_rfl
  z4 := fun w => by kernel_rfl
  v4 := fun w => by kernel_rfl
  t22 := by kernel_rfl
  a22 := fun w => by kernel_rfl
  z22 := fun w => by kernel_rfl
  v22 := fun w => by kernel_rfl
  t25 := by kernel_rfl
  a25 := fun w => by kernel_rfl
  z25 := fun w => by kernel_rfl
  v25 := fun w => by kernel_rfl

/-! the comparing functions -/
def cmpI (x y : Int) : Int := if x < y then -1 else if y < x then 1 else 0
set_option maxHeartbeats 400000 in
theorem isNaN64_any (x : Int) (w : World) : Calls Try.prog 139 #[.int .i64 x] w fun e w' => e = .returned (.bool false) ∧ w' = w := by
  have h : ((x != x) : Bool) = false := by simp
  go_enter Try.func139, Try.ntmps139
  go_wp2
  go_ret
  exact ⟨rfl, rfl⟩
set_option maxHeartbeats 400000 in
theorem isNaNi_any (x : Int) (w : World) : Calls Try.prog 144 #[.int .i64 x] w fun e w' => e = .returned (.bool false) ∧ w' = w := by
  have h : ((x != x) : Bool) = false := by simp
  go_enter Try.func144, Try.ntmps144
  go_wp2
  go_ret
  exact ⟨rfl, rfl⟩
set_option maxHeartbeats 800000 in
theorem cmp64_any (x y : Int) (w : World) : Calls Try.prog 111 #[.int .i64 x, .int .i64 y] w fun e w' => e = .returned (.int .i64 (cmpI x y)) ∧ w' = w := by
  rcases Int.lt_trichotomy x y with h | h | h
  · have hc := hidden (show cmpI x y = -1 from if_pos h)
    go_enter Try.func111, Try.ntmps111
    go_wp2_with (go_at_call 139; refine (isNaN64_any _ _).mono ?_; rintro e w' ⟨rfl, rfl⟩)
    go_ret
    exact ⟨ret_int hc.out.symm, rfl⟩
  · subst h
    have hc := hidden (show cmpI x x = 0 by simp [cmpI])
    go_enter Try.func111, Try.ntmps111
    go_wp2_with (go_at_call 139; refine (isNaN64_any _ _).mono ?_; rintro e w' ⟨rfl, rfl⟩)
    go_ret
    exact ⟨ret_int hc.out.symm, rfl⟩
  · have hc := hidden (show cmpI x y = 1 by unfold cmpI; rw [if_neg (by omega), if_pos h])
    have h2 : ¬ x < y := by omega
    go_enter Try.func111, Try.ntmps111
    go_wp2_with (go_at_call 139; refine (isNaN64_any _ _).mono ?_; rintro e w' ⟨rfl, rfl⟩)
    go_ret
    exact ⟨ret_int hc.out.symm, rfl⟩
set_option maxHeartbeats 800000 in
theorem cmpi_any (x y : Int) (w : World) : Calls Try.prog 125 #[.int .i64 x, .int .i64 y] w fun e w' => e = .returned (.int .i64 (cmpI x y)) ∧ w' = w := by
  rcases Int.lt_trichotomy x y with h | h | h
  · have hc := hidden (show cmpI x y = -1 from if_pos h)
    go_enter Try.func125, Try.ntmps125
    go_wp2_with (go_at_call 144; refine (isNaNi_any _ _).mono ?_; rintro e w' ⟨rfl, rfl⟩)
    go_ret
    exact ⟨ret_int hc.out.symm, rfl⟩
  · subst h
    have hc := hidden (show cmpI x x = 0 by simp [cmpI])
    go_enter Try.func125, Try.ntmps125
    go_wp2_with (go_at_call 144; refine (isNaNi_any _ _).mono ?_; rintro e w' ⟨rfl, rfl⟩)
    go_ret
    exact ⟨ret_int hc.out.symm, rfl⟩
  · have hc := hidden (show cmpI x y = 1 by unfold cmpI; rw [if_neg (by omega), if_pos h])
    have h2 : ¬ x < y := by omega
    go_enter Try.func125, Try.ntmps125
    go_wp2_with (go_at_call 144; refine (isNaNi_any _ _).mono ?_; rintro e w' ⟨rfl, rfl⟩)
    go_ret
    exact ⟨ret_int hc.out.symm, rfl⟩

/-- the first that isn't 0 of three -/
def or3 (x y z : Int) : Int := if x ≠ 0 then x else if y ≠ 0 then y else z
def or3At (x y z : Int) (k : Nat) : Int := if k = 0 then x else if k = 1 then y else z
def or3From (x y z : Int) (k : Nat) : Int := if k = 0 then or3 x y z else if k = 1 then (if y ≠ 0 then y else z) else if k = 2 then z else 0
theorem or3_step (x y z : Int) (k : Nat) (hk : k < 3) : or3From x y z k = if or3At x y z k ≠ 0 then or3At x y z k else or3From x y z (k + 1) := by
  match k, hk with
  | 0, _ => simp [or3From, or3At, or3]
  | 1, _ => simp [or3From, or3At]
  | 2, _ => simp [or3From, or3At]
set_option maxHeartbeats 1600000 in
theorem or3_any (x y z : Int) (g : Nat) (w : World) (hc : ∀ k, k < 3 → w.cell? ⟨g, k, none⟩ = some (.int .i64 (or3At x y z k))) :
    Calls Try.prog 106 #[.slice (some ⟨g, 0, none⟩) 3 3] w fun e w' => e = .returned (.int .i64 (or3 x y z)) ∧ w' = w := by
  have HC := hidden hc
  clear hc
  go_enter Try.func106, Try.ntmps106
  go_wp2
  go_loop [8] (fun i => ∃ k : Nat, k ≤ 3 ∧ i = .int .i64 k ∧ Hid (or3From x y z k = or3 x y z)) (fun i => 3 - (intOf i).toNat)
  case atStart => exact ⟨0, by omega, rfl, by show or3From x y z 0 = _; simp [or3From]⟩
  case round =>
    obtain ⟨k, hk, rfl, hO⟩ := hrel
    by_cases hlt : k < 3
    · have hltz : (k : Int) < 3 := by omega
      have c := HC.out k hlt
      have hst := or3_step x y z k hlt
      generalize or3At x y z k = v at *
      by_cases hv : v ≠ 0
      · rw [if_pos hv] at hst
        have t1 : ((v != 0) : Bool) = true := by simpa using hv
        have HT := hidden (hst.symm.trans hO.out)
        clear hst hv
        go_wp2
        go_ret
        exact ⟨ret_int HT.out, rfl⟩
      · rw [if_neg hv] at hst
        have t1 : ((v != 0) : Bool) = false := by simpa using hv
        have HT := hidden (hst.symm.trans hO.out)
        clear hst hv
        go_wp2
        go_round
        case rel => exact ⟨k + 1, by omega, by go_num, HT⟩
        case measure => simp [intOf]; omega
    · have hltz : ¬ (k : Int) < 3 := by omega
      obtain rfl : k = 3 := by omega
      have HT := hidden (show 0 = or3 x y z from hO.out)
      clear hO
      go_wp2
      go_ret
      exact ⟨ret_int HT.out, rfl⟩

/-- the order of blocks -/
def infCmp (x y : Inf) : Int := or3 (cmpI x.frm y.frm) (cmpI x.til y.til) (cmpI x.id y.id)

set_option maxHeartbeats 6400000 in
theorem order_any (x y : Inf) (w : World) :
    Calls Try.prog 86 #[.agg x.cells.toArray, .agg y.cells.toArray] w fun e w' => e = .returned (.int .i64 (infCmp x y)) ∧ ∃ q os', w' = grow (w.drewN q) os' := by
  obtain ⟨x0, x1, x2, x3, x4⟩ := x
  obtain ⟨y0, y1, y2, y3, y4⟩ := y
  simp only [Inf.cells, infCmp]
  go_enter Try.func86, Try.ntmps86
  go_wp2_with fail
  refine region_tail 15 (by kernel_rfl) (by kernel_rfl) ?_
  simp only [List.take_succ_cons, List.take_zero, List.drop_succ_cons, List.drop_zero]
  still_step
  still_step
  still_step
  still_step
  still_call (cmp64_any _ _ _)
  still_step
  still_step
  still_step
  still_step
  still_call (cmp64_any _ _ _)
  still_step
  still_step
  still_step
  still_step
  still_call (cmpi_any _ _ _)
  refine wpStill_nil ?_
  obtain ⟨a, ha⟩ : ∃ a, cmpI x2 y2 = a := ⟨_, rfl⟩
  obtain ⟨b, hb⟩ : ∃ b, cmpI x3 y3 = b := ⟨_, rfl⟩
  obtain ⟨c, hc⟩ : ∃ c, cmpI x0 y0 = c := ⟨_, rfl⟩
  rw [ha, hb, hc]
  have HA := hidden ha
  have HB := hidden hb
  have HCC := hidden hc
  clear ha hb hc
  go_wp2_with fail
  refine (or3_any a b c _ _ ?c1).mono ?_
  case c1 =>
    have hW := (Whole1.new ((w.alloc (.cells #[.int .i64 x0, .int .i64 x1, .int .i64 x2, .int .i64 x3, .int .i64 x4] 71)).alloc (.cells #[.int .i64 y0, .int .i64 y1, .int .i64 y2, .int .i64 y3, .int .i64 y4] 71)) 3 #[.int .i64 a, .int .i64 b, .int .i64 c]).drew
    rw [World.size_alloc, World.size_alloc] at hW
    intro k hk
    rw [hW.cell]
    match k, hk with
    | 0, _ => rfl
    | 1, _ => rfl
    | 2, _ => rfl
  rintro e w' ⟨rfl, rfl⟩
  go_wp2
  go_ret
  exact ⟨ret_int (by rw [HA.out, HB.out, HCC.out]), 1, _, by simp only [alloc_eq_grow, grow_grow, drew_grow]; rfl⟩

theorem infCells_len (x : Inf) : x.cells.length = 5 := rfl

/-- infos with a number that no cell shows: where each stood -/
abbrev TInf := Inf × Nat
def tenc (u : TInf) : List Value := u.1.cells
def tcf (u v : TInf) : Int := infCmp u.1 v.1

theorem order_lays (blk off size : Nat) (w : World) : CmpLays Try.prog 86 #[] tenc 5 tcf blk off size w :=
  fun _ _ _ _ x y => order_any x.1 y.1 _

theorem insInfo_ok (blk off cap : Nat) (d0 : Array TInf) (w0 : World) (R : RowK tenc 5 w0 blk off d0) (hsz : d0.size < 4611686018427387904) :
    StabInfo.InsOk (P := Try.prog) 5 tenc tcf 86 #[] blk off cap d0 w0 := by
  intro a b d w hab hb hs S
  have hC : CmpLays Try.prog 86 #[] tenc 5 tcf blk off d.size w := order_lays _ _ _ _
  have eg : ∀ args w, (callFunc 86 args).run Try.prog w = .ok (.enter 86 args) w := enters_of Try.func86 (by kernel_rfl) rfl
  have h := AnyQ.insertionSortCmpFunc insInfo_lays 5 (fun w => by kernel_rfl) (fun w => by kernel_rfl) tenc R.hk R.h1 tcf 86 #[] blk off cap a b d w eg hC (S.holds R.hblk R.hH hs) (S.lt R.hblk) hab (by omega) (by omega)
  rw [hs] at h
  refine h.mono ?_
  rintro e w' ⟨rfl, n, os, rfl⟩
  exact ⟨rfl, S.on R.hblk n _ os (insertionSort_size (ltOf tcf) d a b)⟩

set_option maxHeartbeats 1600000 in
/-- THE SORT: the row holds the stable sort of what it held. -/
theorem sortInfo_any (blk off cap : Nat) (d0 : Array TInf) (w : World) (R : RowK tenc 5 w blk off d0) (hsz : d0.size < 1152921504606846976) :
    Calls Try.prog 85 #[.slice (some ⟨blk, off, none⟩) d0.size cap, .func (.func 86) #[] #[]] w
      fun e w' => e = .returned (.tuple #[]) ∧ SWK tenc 5 w blk off (stable (ltOf tcf) d0.size d0) w' := by
  have eg : ∀ args w, (callFunc 86 args).run Try.prog w = .ok (.enter 86 args) w := enters_of Try.func86 (by kernel_rfl) rfl
  have hcon := hidden (StabInfo.stable_any 5 stabInfo_bears tenc tcf 86 #[] blk off cap d0 w eg (order_lays _ _ _ _) R (insInfo_ok blk off cap d0 w R (by omega)) hsz w (SWK.start R.hH))
  clear R eg
  generalize d0.size = n at *
  go_enter Try.func85, Try.ntmps85
  go_wp2_with fail
  refine hcon.out.mono ?_
  rintro e w' ⟨rfl, hS⟩
  have HS := hidden hS
  clear hS
  go_wp2
  go_end0
  exact ⟨rfl, HS.out⟩
end Go.Proofs.Ytohocdbneopooaa
