/- What the laws' own example of merging comes to, plainly. No condition. The laws' own helper wakes returns true in every world. No condition. -/
import Derived.Test.YtohocdbneopooaaMrgLaw
namespace Go.Proofs.Ytohocdbneopooaa
set_option maxRecDepth 100000
open Go.RowKit

/-- clipping, by what a list tells -/
def clipSK (a b : Int) (l : List SK) : List SK := fulls (l.map fun s => (s.1, s.2.1.filter (fun y => inR a b y.t), s.2.2.filter (fun y => inR a b y.start)))
theorem clipAll_sk (a b : Int) (L : List Ser) : clipAll a b L = clipSK a b (L.map Ser.sk) := by
  unfold clipAll keptAll clipSK
  rw [List.map_map]
  rfl
def stripSK (res : Int) (gones : List Gon) (l : List SK) : List SK := if res < 0 ∨ 3 ≤ res then [] else fulls (l.map fun s => (s.1, s.2.1.filter (fun y => decide (res = 0) && !tk gones res s.1 y.t), s.2.2.filter (fun y => decide (res ≠ 0) && !tk gones res s.1 y.start)))
theorem stripAll_sk (res : Int) (gones : List Gon) (L : List Ser) : stripAll res gones L = stripSK res gones (L.map Ser.sk) := by
  unfold stripAll stripSK keptAll
  rw [List.map_map]
  rfl

def wlx : List Lbl := [⟨⟨#[97]⟩, ⟨#[120]⟩⟩]
def wly : List Lbl := [⟨⟨#[97]⟩, ⟨#[121]⟩⟩]
def wakeIn : List SK := [(wlx, [⟨5, 1⟩, ⟨7, 2⟩], []), (wly, [⟨1, 4⟩], []), (wlx, [⟨5, 9⟩, ⟨6, 3⟩], [])]
def wakeOut : List SK := [(wlx, [⟨5, 1⟩, ⟨6, 3⟩, ⟨7, 2⟩], []), (wly, [⟨1, 4⟩], [])]
theorem wxy : cmpLs wlx wly = -1 := by decide +kernel
theorem wxy_ne : wlx ≠ wly := lt_ne (by rw [wxy]; decide)
theorem wake_canon : Canon wakeOut := by
  refine ⟨?_, ?_, ?_, ?_⟩
  · unfold wakeOut
    rw [List.pairwise_cons]
    refine ⟨fun b hb => ?_, List.pairwise_singleton _ _⟩
    rw [List.mem_singleton.1 hb, wxy]
    decide
  · intro e he
    unfold wakeOut at he
    simp only [List.mem_cons, List.not_mem_nil, or_false] at he
    rcases he with rfl | rfl <;> simp
  · intro e he
    unfold wakeOut at he
    simp only [List.mem_cons, List.not_mem_nil, or_false] at he
    rcases he with rfl | rfl <;> simp
  · intro e he
    unfold wakeOut at he
    simp only [List.mem_cons, List.not_mem_nil, or_false] at he
    rcases he with rfl | rfl <;> simp
theorem wake_find (t : Int) : ([⟨5, 1⟩, ⟨6, 3⟩, ⟨7, 2⟩] : List Smp).find? (fun x => x.t == t) = ([⟨5, 1⟩, ⟨7, 2⟩, ⟨5, 9⟩, ⟨6, 3⟩] : List Smp).find? (fun x => x.t == t) := by
  by_cases h5 : t = 5
  · subst h5; rfl
  · by_cases h6 : t = 6
    · subst h6; rfl
    · by_cases h7 : t = 7
      · subst h7; rfl
      · have a5 : ((5 : Int) == t) = false := by simpa using fun e => h5 e.symm
        have a6 : ((6 : Int) == t) = false := by simpa using fun e => h6 e.symm
        have a7 : ((7 : Int) == t) = false := by simpa using fun e => h7 e.symm
        simp [a5, a6, a7]
theorem wake_eqv : Eqv wakeOut wakeIn := by
  intro k t
  have h1 : wakeIn = [(wlx, [⟨5, 1⟩, ⟨7, 2⟩], [])] ++ ([(wly, [⟨1, 4⟩], [])] ++ [(wlx, [⟨5, 9⟩, ⟨6, 3⟩], [])]) := rfl
  have h2 : wakeOut = [(wlx, [⟨5, 1⟩, ⟨6, 3⟩, ⟨7, 2⟩], [])] ++ [(wly, [⟨1, 4⟩], [])] := rfl
  unfold semS semW
  rw [h1, h2, smpsOf_app, smpsOf_app, smpsOf_app, winsOf_app, winsOf_app, winsOf_app]
  simp only [smpsOf_one, winsOf_one, ite_self, List.append_nil]
  refine ⟨?_, trivial⟩
  by_cases hx : wlx = k
  · have hy : ¬ wly = k := fun e => wxy_ne (hx.trans e.symm)
    simp only [if_pos hx, if_neg hy]
    exact wake_find t
  · simp only [if_neg hx]
    simp
theorem wake_clip : (clipSK 6 9 wakeOut).length = 1 := by decide +kernel
theorem wake_strip : (stripSK 0 [] wakeOut).length = 2 := by decide +kernel
end Go.Proofs.Ytohocdbneopooaa

namespace Go.Proofs.Ytohocdbneopooaa
set_option maxRecDepth 100000
open Go.RowKit

def OneRes (v : ByteArray) (A : Option Addr) (n c : Nat) (w : World) (e : Ending) (w' : World) : Prop :=
  ∃ g, e = .returned (.agg #[.slice (some ⟨g, 0, none⟩) 1 1, .slice A n c, .slice none 0 0]) ∧ Row w' w'.heap.size 2 (some ⟨g, 0, none⟩) 1 (lblCells [⟨⟨#[97]⟩, v⟩]) ∧ Below w.heap.size w w'
set_option maxHeartbeats 1600000 in
theorem one_any (v : ByteArray) (A : Option Addr) (n c : Nat) (w : World) :
    Calls Try.prog 74 #[.string v, .slice A n c] w (OneRes v A n c w) := by
  go_enter Try.func74, Try.ntmps74
  go_wp2_with fail
  have hr := Row.fresh (w.alloc (.cells #[.slice (some ⟨w.heap.size + 1, 0, none⟩) 1 1, .slice A n c, .slice none 0 0] 46)) 57 2 1 (lblCells [⟨⟨#[97]⟩, v⟩]) rfl
  rw [World.size_alloc] at hr
  refine bodyPost_ret (v := .agg #[.slice (some ⟨w.heap.size + 1, 0, none⟩) 1 1, .slice A n c, .slice none 0 0]) (by simp [results, Try.results74, go_sem]) rfl ⟨_, rfl, hr.more (by simp), ((Below.refl _ _).alloc (Nat.le_refl _) _).alloc (by simp) _⟩

theorem Row.on {w w' : World} {size n : Nat} {A : Option Addr} {xs : List Value} (h : Row w w.heap.size size A n xs) (hb : Below w.heap.size w w') : Row w' w'.heap.size size A n xs := (h.below hb).more hb.size
theorem fresh_row (w : World) (t : TypeId) (size n : Nat) (cs : List Value) (h : cs.length = n * size) : ∃ wa, wa = w.alloc (.cells cs.toArray t) ∧ Row wa wa.heap.size size (some ⟨w.heap.size, 0, none⟩) n cs ∧ Below w.heap.size w wa ∧ wa.heap.size = w.heap.size + 1 :=
  ⟨_, rfl, (Row.fresh w t size n cs h).more (by rw [World.size_alloc]; exact Nat.le_refl _), (Below.refl _ _).alloc (Nat.le_refl _) _, World.size_alloc _ _⟩

/-- the example's three series, as they lie -/
def wkS1 (g p : Nat) : Ser := ⟨⟨some ⟨g, 0, none⟩, 1, 1, wlx⟩, ⟨some ⟨p, 0, none⟩, 2, 2, [⟨5, 1⟩, ⟨7, 2⟩]⟩, Sl.nil⟩
def wkS2 (g p : Nat) : Ser := ⟨⟨some ⟨g, 0, none⟩, 1, 1, wly⟩, ⟨some ⟨p, 0, none⟩, 1, 1, [⟨1, 4⟩]⟩, Sl.nil⟩
def wkS3 (g p : Nat) : Ser := ⟨⟨some ⟨g, 0, none⟩, 1, 1, wlx⟩, ⟨some ⟨p, 0, none⟩, 2, 2, [⟨5, 9⟩, ⟨6, 3⟩]⟩, Sl.nil⟩
theorem wkS1_at {w : World} {g p : Nat} (h1 : Row w w.heap.size 2 (some ⟨g, 0, none⟩) 1 (lblCells wlx)) (h2 : Row w w.heap.size 2 (some ⟨p, 0, none⟩) 2 (smpCells [⟨5, 1⟩, ⟨7, 2⟩])) : (wkS1 g p).At w w.heap.size := ⟨⟨Nat.le_refl _, rfl, h1⟩, ⟨Nat.le_refl _, rfl, h2⟩, ⟨Nat.le_refl _, rfl, Row.nil⟩⟩
theorem wkS2_at {w : World} {g p : Nat} (h1 : Row w w.heap.size 2 (some ⟨g, 0, none⟩) 1 (lblCells wly)) (h2 : Row w w.heap.size 2 (some ⟨p, 0, none⟩) 1 (smpCells [⟨1, 4⟩])) : (wkS2 g p).At w w.heap.size := ⟨⟨Nat.le_refl _, rfl, h1⟩, ⟨Nat.le_refl _, rfl, h2⟩, ⟨Nat.le_refl _, rfl, Row.nil⟩⟩
theorem wkS3_at {w : World} {g p : Nat} (h1 : Row w w.heap.size 2 (some ⟨g, 0, none⟩) 1 (lblCells wlx)) (h2 : Row w w.heap.size 2 (some ⟨p, 0, none⟩) 2 (smpCells [⟨5, 9⟩, ⟨6, 3⟩])) : (wkS3 g p).At w w.heap.size := ⟨⟨Nat.le_refl _, rfl, h1⟩, ⟨Nat.le_refl _, rfl, h2⟩, ⟨Nat.le_refl _, rfl, Row.nil⟩⟩

set_option maxHeartbeats 6400000 in
theorem mrgWakes_any (w : World) : Calls Try.prog 28 #[] w fun e w' => e = .returned (.bool true) ∧ Below w.heap.size w w' := by
  go_enter Try.func28, Try.ntmps28
  go_wp2_with fail
  obtain ⟨wa, hwa, X1, B1, _⟩ := fresh_row w 55 2 2 (smpCells [⟨5, 1⟩, ⟨7, 2⟩]) rfl
  refine (one_any _ _ _ _ _).mono ?_
  rintro e w1 ⟨g1, rfl, hr1, hb1⟩
  obtain ⟨p1, hp1⟩ : ∃ p1, w.heap.size = p1 := ⟨_, rfl⟩
  have B1' := B1.trans ((hwa ▸ hb1).mono B1.size)
  have X1' := X1.on (hwa ▸ hb1)
  rw [hp1] at X1' ⊢
  have HP := hidden hp1
  have HB1 := hidden B1'
  have HX1 := hidden X1'
  have HR1 := hidden hr1
  clear hwa X1 B1 hb1 hr1 hp1 B1' X1'
  go_wp2_with fail
  obtain ⟨wb, hwb, X2, B2, s2⟩ := fresh_row w1 46 3 1 (serCells [wkS1 g1 p1]) rfl
  obtain ⟨wc, hwc, X3, B3, s3⟩ := fresh_row wb 55 2 1 (smpCells [⟨1, 4⟩]) rfl
  refine (one_any _ _ _ _ _).mono ?_
  rintro e w2 ⟨g2, rfl, hr2, hb2⟩
  have hb2' : Below wc.heap.size wc w2 := by subst hwb hwc; exact hb2
  obtain ⟨p2, hp2⟩ : ∃ p2, w1.heap.size = p2 := ⟨_, rfl⟩
  have C2 : Below w1.heap.size w1 w2 := (B2.trans (B3.mono B2.size)).trans (hb2'.mono (by have := B2.size; have := B3.size; omega))
  have HB2 := hidden (HB1.out.trans (C2.mono HB1.out.size))
  have HX2 := hidden (HX1.out.on C2)
  have HR2 := hidden (HR1.out.on C2)
  have HS2 := hidden ((X2.on B3).on hb2')
  have X3' := X3.on hb2'
  rw [s2] at X3'
  have HX3 := hidden X3'
  have HR3 := hidden hr2
  rw [hp2] at HS2 HX3 ⊢
  clear hwb hwc X2 B2 s2 X3 B3 s3 hb2 hb2' C2 hr2 hp2 X3' HX1 HR1 HB1
  go_wp2_with fail
  obtain ⟨wd, hwd, X4, B4, s4⟩ := fresh_row w2 55 2 2 (smpCells [⟨5, 9⟩, ⟨6, 3⟩]) rfl
  refine (one_any _ _ _ _ _).mono ?_
  rintro e w3 ⟨g3, rfl, hr3, hb3⟩
  have hb3' : Below wd.heap.size wd w3 := by subst hwd; exact hb3
  obtain ⟨p3, hp3⟩ : ∃ p3, w2.heap.size = p3 := ⟨_, rfl⟩
  have C3 : Below w2.heap.size w2 w3 := B4.trans (hb3'.mono B4.size)
  have HB4 := hidden (HB2.out.trans (C3.mono HB2.out.size))
  have HX2b := hidden (HX2.out.on C3)
  have HR2b := hidden (HR2.out.on C3)
  have HS2b := hidden (HS2.out.on C3)
  have HX3b := hidden (HX3.out.on C3)
  have HR3b := hidden (HR3.out.on C3)
  have HX4 := hidden (X4.on hb3')
  have HR4 := hidden hr3
  rw [hp3] at HX4 ⊢
  clear hwd X4 B4 s4 hb3 hb3' C3 hr3 hp3 HX2 HR2 HB2 HS2 HX3 HR3
  go_wp2_with fail
  obtain ⟨we, hwe, X5, B5, s5⟩ := fresh_row w3 46 3 2 (serCells [wkS2 g2 (p2 + 1), wkS3 g3 p3]) rfl
  obtain ⟨p5, hp5⟩ : ∃ p5, w3.heap.size = p5 := ⟨_, rfl⟩
  rw [hp5] at X5
  obtain ⟨wf, hwf, X6, B6, s6⟩ := fresh_row we 24 1 2 ([(⟨some ⟨p2, 0, none⟩, 1, 1, [wkS1 g1 p1]⟩ : Sl Ser), ⟨some ⟨p5, 0, none⟩, 2, 2, [wkS2 g2 (p2 + 1), wkS3 g3 p3]⟩].map Sl.val) rfl
  have C6 : Below w3.heap.size w3 wf := B5.trans (B6.mono B5.size)
  have hSLL : SLL wf (some ⟨we.heap.size, 0, none⟩) 2 [(⟨some ⟨p2, 0, none⟩, 1, 1, [wkS1 g1 p1]⟩ : Sl Ser), ⟨some ⟨p5, 0, none⟩, 2, 2, [wkS2 g2 (p2 + 1), wkS3 g3 p3]⟩] := by
    refine ⟨X6, rfl, fun s hs => ?_, fun s hs x hx => ?_, by show 3 ≤ 1099511627776; omega, by show 5 ≤ 1099511627776; omega, by omega⟩
    · simp only [List.mem_cons, List.not_mem_nil, or_false] at hs
      rcases hs with rfl | rfl
      · exact ⟨Nat.le_refl _, rfl, HS2b.out.on C6⟩
      · exact ⟨Nat.le_refl _, rfl, X5.on B6⟩
    · simp only [List.mem_cons, List.not_mem_nil, or_false] at hs
      rcases hs with rfl | rfl
      · rw [List.mem_singleton.1 hx]
        exact ⟨wkS1_at (HR2b.out.on C6) (HX2b.out.on C6), by show 1 ≤ 1048576; omega⟩
      · simp only [List.mem_cons, List.not_mem_nil, or_false] at hx
        rcases hx with rfl | rfl
        · exact ⟨wkS2_at (HR3b.out.on C6) (HX3b.out.on C6), by show 1 ≤ 1048576; omega⟩
        · exact ⟨wkS3_at (HR4.out.on C6) (HX4.out.on C6), by show 1 ≤ 1048576; omega⟩
  have hcon := merge_law _ 2 2 _ wf hSLL
  have HB6 := hidden (HB4.out.trans (C6.mono HB4.out.size))
  rw [s5, hp5] at hcon
  subst hwf hwe
  rw [hp5]
  refine hcon.mono ?_
  rintro e w4 ⟨A, c, L, rfl, _, hsl, hcan, heqv, hb4, _⟩
  have hsk : L.map Ser.sk = wakeOut := canon_unique hcan wake_canon (heqv.trans wake_eqv.symm)
  have HB7 := hidden (HB6.out.trans (hb4.mono HB6.out.size))
  have HSL := hidden hsl
  have HSK := hidden hsk
  have hll : L.length = 2 := by have := congrArg List.length hsk; rw [List.length_map] at this; exact this
  clear hcon hSLL hcan heqv hb4 X5 B5 X6 B6 C6 HS2b HX2b HR2b HX3b HR3b HR4 HX4 HB4 HB6 s5 s6 hp5
  -- the first one's cells
  obtain ⟨gl, ol, x0, hA, _, hx0, hc0⟩ := row_at (enc := Ser.cells) SrtSer.hk hsl.row hsl.len 0 (by omega)
  have hx0k : x0.sk = (wlx, [⟨5, 1⟩, ⟨6, 3⟩, ⟨7, 2⟩], []) := by
    have := congrArg (fun l => l[0]?) hsk
    simp only [List.getElem?_map, hx0] at this
    exact Option.some.inj this
  have hx0l : x0.smp.l = [⟨5, 1⟩, ⟨6, 3⟩, ⟨7, 2⟩] := congrArg (fun s => s.2.1) hx0k
  have hx0a := (hsl.at_ x0 (List.mem_of_getElem? hx0)).smp
  have hx0n : x0.smp.n = 3 := by rw [← hx0a.2.1, hx0l]; rfl
  have d1 : w4.cell? ⟨gl, ol + 1, none⟩ = some (.slice x0.smp.A 3 x0.smp.c) := by
    have := hc0 1 (by omega)
    rw [← hx0n]
    rw [Nat.zero_mul, Nat.add_zero] at this
    exact this
  obtain ⟨gp, op, hpA, _, hpc⟩ := hx0a.2.2.at_ (by omega)
  rw [hx0l] at hpc
  have e0 : w4.cell? ⟨gp, op, none⟩ = some (.int .i64 5) := hpc 0 (by omega)
  have e1 : w4.cell? ⟨gp, op + 1, none⟩ = some (.int .u64 1) := hpc 1 (by omega)
  have e3 : w4.cell? ⟨gp, op + 3, none⟩ = some (.int .u64 3) := hpc 3 (by omega)
  rw [hpA] at d1
  subst hA
  rw [hll] at hsl ⊢
  have S1 := hidden (clip_law (some ⟨gl, ol, none⟩) 2 c L 6 9 w4 hsl)
  have S2 := hidden (fun (w' : World) (hb : Below w4.heap.size w4 w') => stripF_law 0 (some ⟨gl, ol, none⟩) 2 c L none 0 0 [] w' (hsl.on hb).sf ⟨Row.nil, rfl, by simp, by omega, by simp⟩)
  clear hsl hsk hc0 hx0 hx0k hx0l hx0a hx0n hpA hpc HSL hll
  go_wp2_with fail
  refine S1.out.mono ?_
  rintro e w5 ⟨A5, c5, L5, rfl, _, h5, hb5, _⟩
  have hl5 : L5.length = 1 := by
    have := congrArg List.length h5
    rw [List.length_map, clipAll_sk, HSK.out, wake_clip] at this
    exact this
  rw [hl5]
  have HB5 := hidden hb5
  have S3 := hidden (S2.out w5 hb5)
  clear h5 hl5 hb5 S1 S2 d1 e0 e1 e3
  go_wp2_with fail
  refine S3.out.mono ?_
  rintro e w6 ⟨A6, c6, L6, rfl, _, h6, hb6, _⟩
  have hl6 : L6.length = 2 := by
    have := congrArg List.length h6
    rw [List.length_map, stripAll_sk, HSK.out, wake_strip] at this
    exact this
  rw [hl6]
  have HB8 := hidden ((HB7.out.trans (HB5.out.mono HB7.out.size)).trans (hb6.mono (by have := HB7.out.size; have := HB5.out.size; omega)))
  clear h6 hl6 hb6 S3
  go_wp2_with fail
  go_ret
  exact ⟨rfl, HB8.out⟩
end Go.Proofs.Ytohocdbneopooaa
