/- What the laws' own example of merging comes to, plainly. No condition. The laws' own helper wakes returns true in every world. No condition. What came in, opened, with its bulk in sum. No condition. The laws of merging, plainly: pieces, once more with itself, clipped before and behind, halves. No condition. Putting together and clipping as the laws see it: lists by what they tell, as they lie, with their bulks. Condition: what comes in is of bulk at most 1048576. -/
import Derived.Test.YtohocdbneopooaaMrgLaw
import Derived.Test.YtohocdbneopooaaSer
import Derived.Test.YtohocdbneopooaaArgs
namespace Go.Proofs.Ytohocdbneopooaa
set_option maxRecDepth 100000
open Go.RowKit

/-- clipping, by what a list tells -/
def clipSK (a b : Int) (l : List SK) : List SK := fulls (l.map fun s => (s.1, s.2.1.filter (fun y => inR a b y.t), s.2.2.filter (fun y => inR a b y.start)))
theorem clipAll_sk (a b : Int) (L : List Ser) : clipAll a b L = clipSK a b (L.map Ser.sk) := by
  unfold clipAll keptAll clipSK
  rw [List.map_map]
  rfl
def stripSK (res : Int) (gones : List Gon) (l : List SK) : List SK := if res < 0 ∨ 3 ≤ res then [] else fulls (l.map fun s => (s.1, s.2.1.filter (fun y => decide (res = 0) && !tk gones res s.1 y.t), s.2.2.filter (fun y => decide (res ≠ 0) && !tk gones res s.1 y.start)))
theorem stripAll_sk (res : Int) (gones : List Gon) (L : List Ser) : stripAll res gones L = stripSK res gones (L.map Ser.sk) := by
  unfold stripAll stripSK keptAll
  rw [List.map_map]
  rfl

def wlx : List Lbl := [⟨⟨#[97]⟩, ⟨#[120]⟩⟩]
def wly : List Lbl := [⟨⟨#[97]⟩, ⟨#[121]⟩⟩]
def wakeIn : List SK := [(wlx, [⟨5, 1⟩, ⟨7, 2⟩], []), (wly, [⟨1, 4⟩], []), (wlx, [⟨5, 9⟩, ⟨6, 3⟩], [])]
def wakeOut : List SK := [(wlx, [⟨5, 1⟩, ⟨6, 3⟩, ⟨7, 2⟩], []), (wly, [⟨1, 4⟩], [])]
theorem wxy : cmpLs wlx wly = -1 := by decide +kernel
theorem wxy_ne : wlx ≠ wly := lt_ne (by rw [wxy]; decide)
theorem wake_canon : Canon wakeOut := by
  refine ⟨?_, ?_, ?_, ?_⟩
  · unfold wakeOut
    rw [List.pairwise_cons]
    refine ⟨fun b hb => ?_, List.pairwise_singleton _ _⟩
    rw [List.mem_singleton.1 hb, wxy]
    decide
  · intro e he
    unfold wakeOut at he
    simp only [List.mem_cons, List.not_mem_nil, or_false] at he
    rcases he with rfl | rfl <;> simp
  · intro e he
    unfold wakeOut at he
    simp only [List.mem_cons, List.not_mem_nil, or_false] at he
    rcases he with rfl | rfl <;> simp
  · intro e he
    unfold wakeOut at he
    simp only [List.mem_cons, List.not_mem_nil, or_false] at he
    rcases he with rfl | rfl <;> simp
theorem wake_find (t : Int) : ([⟨5, 1⟩, ⟨6, 3⟩, ⟨7, 2⟩] : List Smp).find? (fun x => x.t == t) = ([⟨5, 1⟩, ⟨7, 2⟩, ⟨5, 9⟩, ⟨6, 3⟩] : List Smp).find? (fun x => x.t == t) := by
  by_cases h5 : t = 5
  · subst h5; rfl
  · by_cases h6 : t = 6
    · subst h6; rfl
    · by_cases h7 : t = 7
      · subst h7; rfl
      · have a5 : ((5 : Int) == t) = false := by simpa using fun e => h5 e.symm
        have a6 : ((6 : Int) == t) = false := by simpa using fun e => h6 e.symm
        have a7 : ((7 : Int) == t) = false := by simpa using fun e => h7 e.symm
        simp [a5, a6, a7]
theorem wake_eqv : Eqv wakeOut wakeIn := by
  intro k t
  have h1 : wakeIn = [(wlx, [⟨5, 1⟩, ⟨7, 2⟩], [])] ++ ([(wly, [⟨1, 4⟩], [])] ++ [(wlx, [⟨5, 9⟩, ⟨6, 3⟩], [])]) := rfl
  have h2 : wakeOut = [(wlx, [⟨5, 1⟩, ⟨6, 3⟩, ⟨7, 2⟩], [])] ++ [(wly, [⟨1, 4⟩], [])] := rfl
  unfold semS semW
  rw [h1, h2, smpsOf_app, smpsOf_app, smpsOf_app, winsOf_app, winsOf_app, winsOf_app]
  simp only [smpsOf_one, winsOf_one, ite_self, List.append_nil]
  refine ⟨?_, trivial⟩
  by_cases hx : wlx = k
  · have hy : ¬ wly = k := fun e => wxy_ne (hx.trans e.symm)
    simp only [if_pos hx, if_neg hy]
    exact wake_find t
  · simp only [if_neg hx]
    simp
theorem wake_clip : (clipSK 6 9 wakeOut).length = 1 := by decide +kernel
theorem wake_strip : (stripSK 0 [] wakeOut).length = 2 := by decide +kernel
end Go.Proofs.Ytohocdbneopooaa

namespace Go.Proofs.Ytohocdbneopooaa
set_option maxRecDepth 100000
open Go.RowKit

def OneRes (v : ByteArray) (A : Option Addr) (n c : Nat) (w : World) (e : Ending) (w' : World) : Prop :=
  ∃ g, e = .returned (.agg #[.slice (some ⟨g, 0, none⟩) 1 1, .slice A n c, .slice none 0 0]) ∧ Row w' w'.heap.size 2 (some ⟨g, 0, none⟩) 1 (lblCells [⟨⟨#[97]⟩, v⟩]) ∧ Below w.heap.size w w'
set_option maxHeartbeats 1600000 in
theorem one_any (v : ByteArray) (A : Option Addr) (n c : Nat) (w : World) :
    Calls Try.prog 74 #[.string v, .slice A n c] w (OneRes v A n c w) := by
  go_enter Try.func74, Try.ntmps74
  go_wp2_with fail
  have hr := Row.fresh (w.alloc (.cells #[.slice (some ⟨w.heap.size + 1, 0, none⟩) 1 1, .slice A n c, .slice none 0 0] 46)) 57 2 1 (lblCells [⟨⟨#[97]⟩, v⟩]) rfl
  rw [World.size_alloc] at hr
  refine bodyPost_ret (v := .agg #[.slice (some ⟨w.heap.size + 1, 0, none⟩) 1 1, .slice A n c, .slice none 0 0]) (by simp [results, Try.results74, go_sem]) rfl ⟨_, rfl, hr.more (by simp), ((Below.refl _ _).alloc (Nat.le_refl _) _).alloc (by simp) _⟩

theorem Row.on {w w' : World} {size n : Nat} {A : Option Addr} {xs : List Value} (h : Row w w.heap.size size A n xs) (hb : Below w.heap.size w w') : Row w' w'.heap.size size A n xs := (h.below hb).more hb.size
theorem fresh_row (w : World) (t : TypeId) (size n : Nat) (cs : List Value) (h : cs.length = n * size) : ∃ wa, wa = w.alloc (.cells cs.toArray t) ∧ Row wa wa.heap.size size (some ⟨w.heap.size, 0, none⟩) n cs ∧ Below w.heap.size w wa ∧ wa.heap.size = w.heap.size + 1 :=
  ⟨_, rfl, (Row.fresh w t size n cs h).more (by rw [World.size_alloc]; exact Nat.le_refl _), (Below.refl _ _).alloc (Nat.le_refl _) _, World.size_alloc _ _⟩

/-- the example's three series, as they lie -/
def wkS1 (g p : Nat) : Ser := ⟨⟨some ⟨g, 0, none⟩, 1, 1, wlx⟩, ⟨some ⟨p, 0, none⟩, 2, 2, [⟨5, 1⟩, ⟨7, 2⟩]⟩, Sl.nil⟩
def wkS2 (g p : Nat) : Ser := ⟨⟨some ⟨g, 0, none⟩, 1, 1, wly⟩, ⟨some ⟨p, 0, none⟩, 1, 1, [⟨1, 4⟩]⟩, Sl.nil⟩
def wkS3 (g p : Nat) : Ser := ⟨⟨some ⟨g, 0, none⟩, 1, 1, wlx⟩, ⟨some ⟨p, 0, none⟩, 2, 2, [⟨5, 9⟩, ⟨6, 3⟩]⟩, Sl.nil⟩
theorem wkS1_at {w : World} {g p : Nat} (h1 : Row w w.heap.size 2 (some ⟨g, 0, none⟩) 1 (lblCells wlx)) (h2 : Row w w.heap.size 2 (some ⟨p, 0, none⟩) 2 (smpCells [⟨5, 1⟩, ⟨7, 2⟩])) : (wkS1 g p).At w w.heap.size := ⟨⟨Nat.le_refl _, rfl, h1⟩, ⟨Nat.le_refl _, rfl, h2⟩, ⟨Nat.le_refl _, rfl, Row.nil⟩⟩
theorem wkS2_at {w : World} {g p : Nat} (h1 : Row w w.heap.size 2 (some ⟨g, 0, none⟩) 1 (lblCells wly)) (h2 : Row w w.heap.size 2 (some ⟨p, 0, none⟩) 1 (smpCells [⟨1, 4⟩])) : (wkS2 g p).At w w.heap.size := ⟨⟨Nat.le_refl _, rfl, h1⟩, ⟨Nat.le_refl _, rfl, h2⟩, ⟨Nat.le_refl _, rfl, Row.nil⟩⟩
theorem wkS3_at {w : World} {g p : Nat} (h1 : Row w w.heap.size 2 (some ⟨g, 0, none⟩) 1 (lblCells wlx)) (h2 : Row w w.heap.size 2 (some ⟨p, 0, none⟩) 2 (smpCells [⟨5, 9⟩, ⟨6, 3⟩])) : (wkS3 g p).At w w.heap.size := ⟨⟨Nat.le_refl _, rfl, h1⟩, ⟨Nat.le_refl _, rfl, h2⟩, ⟨Nat.le_refl _, rfl, Row.nil⟩⟩

set_option maxHeartbeats 6400000 in
theorem mrgWakes_any (w : World) : Calls Try.prog 28 #[] w fun e w' => e = .returned (.bool true) ∧ Below w.heap.size w w' := by
  go_enter Try.func28, Try.ntmps28
  go_wp2_with fail
  obtain ⟨wa, hwa, X1, B1, _⟩ := fresh_row w 55 2 2 (smpCells [⟨5, 1⟩, ⟨7, 2⟩]) rfl
  refine (one_any _ _ _ _ _).mono ?_
  rintro e w1 ⟨g1, rfl, hr1, hb1⟩
  obtain ⟨p1, hp1⟩ : ∃ p1, w.heap.size = p1 := ⟨_, rfl⟩
  have B1' := B1.trans ((hwa ▸ hb1).mono B1.size)
  have X1' := X1.on (hwa ▸ hb1)
  rw [hp1] at X1' ⊢
  have HP := hidden hp1
  have HB1 := hidden B1'
  have HX1 := hidden X1'
  have HR1 := hidden hr1
  clear hwa X1 B1 hb1 hr1 hp1 B1' X1'
  go_wp2_with fail
  obtain ⟨wb, hwb, X2, B2, s2⟩ := fresh_row w1 46 3 1 (serCells [wkS1 g1 p1]) rfl
  obtain ⟨wc, hwc, X3, B3, s3⟩ := fresh_row wb 55 2 1 (smpCells [⟨1, 4⟩]) rfl
  refine (one_any _ _ _ _ _).mono ?_
  rintro e w2 ⟨g2, rfl, hr2, hb2⟩
  have hb2' : Below wc.heap.size wc w2 := by subst hwb hwc; exact hb2
  obtain ⟨p2, hp2⟩ : ∃ p2, w1.heap.size = p2 := ⟨_, rfl⟩
  have C2 : Below w1.heap.size w1 w2 := (B2.trans (B3.mono B2.size)).trans (hb2'.mono (by have := B2.size; have := B3.size; omega))
  have HB2 := hidden (HB1.out.trans (C2.mono HB1.out.size))
  have HX2 := hidden (HX1.out.on C2)
  have HR2 := hidden (HR1.out.on C2)
  have HS2 := hidden ((X2.on B3).on hb2')
  have X3' := X3.on hb2'
  rw [s2] at X3'
  have HX3 := hidden X3'
  have HR3 := hidden hr2
  rw [hp2] at HS2 HX3 ⊢
  clear hwb hwc X2 B2 s2 X3 B3 s3 hb2 hb2' C2 hr2 hp2 X3' HX1 HR1 HB1
  go_wp2_with fail
  obtain ⟨wd, hwd, X4, B4, s4⟩ := fresh_row w2 55 2 2 (smpCells [⟨5, 9⟩, ⟨6, 3⟩]) rfl
  refine (one_any _ _ _ _ _).mono ?_
  rintro e w3 ⟨g3, rfl, hr3, hb3⟩
  have hb3' : Below wd.heap.size wd w3 := by subst hwd; exact hb3
  obtain ⟨p3, hp3⟩ : ∃ p3, w2.heap.size = p3 := ⟨_, rfl⟩
  have C3 : Below w2.heap.size w2 w3 := B4.trans (hb3'.mono B4.size)
  have HB4 := hidden (HB2.out.trans (C3.mono HB2.out.size))
  have HX2b := hidden (HX2.out.on C3)
  have HR2b := hidden (HR2.out.on C3)
  have HS2b := hidden (HS2.out.on C3)
  have HX3b := hidden (HX3.out.on C3)
  have HR3b := hidden (HR3.out.on C3)
  have HX4 := hidden (X4.on hb3')
  have HR4 := hidden hr3
  rw [hp3] at HX4 ⊢
  clear hwd X4 B4 s4 hb3 hb3' C3 hr3 hp3 HX2 HR2 HB2 HS2 HX3 HR3
  go_wp2_with fail
  obtain ⟨we, hwe, X5, B5, s5⟩ := fresh_row w3 46 3 2 (serCells [wkS2 g2 (p2 + 1), wkS3 g3 p3]) rfl
  obtain ⟨p5, hp5⟩ : ∃ p5, w3.heap.size = p5 := ⟨_, rfl⟩
  rw [hp5] at X5
  obtain ⟨wf, hwf, X6, B6, s6⟩ := fresh_row we 24 1 2 ([(⟨some ⟨p2, 0, none⟩, 1, 1, [wkS1 g1 p1]⟩ : Sl Ser), ⟨some ⟨p5, 0, none⟩, 2, 2, [wkS2 g2 (p2 + 1), wkS3 g3 p3]⟩].map Sl.val) rfl
  have C6 : Below w3.heap.size w3 wf := B5.trans (B6.mono B5.size)
  have hSLL : SLL wf (some ⟨we.heap.size, 0, none⟩) 2 [(⟨some ⟨p2, 0, none⟩, 1, 1, [wkS1 g1 p1]⟩ : Sl Ser), ⟨some ⟨p5, 0, none⟩, 2, 2, [wkS2 g2 (p2 + 1), wkS3 g3 p3]⟩] := by
    refine ⟨X6, rfl, fun s hs => ?_, fun s hs x hx => ?_, by show 3 ≤ 1099511627776; omega, by show 5 ≤ 1099511627776; omega, by omega⟩
    · simp only [List.mem_cons, List.not_mem_nil, or_false] at hs
      rcases hs with rfl | rfl
      · exact ⟨Nat.le_refl _, rfl, HS2b.out.on C6⟩
      · exact ⟨Nat.le_refl _, rfl, X5.on B6⟩
    · simp only [List.mem_cons, List.not_mem_nil, or_false] at hs
      rcases hs with rfl | rfl
      · rw [List.mem_singleton.1 hx]
        exact ⟨wkS1_at (HR2b.out.on C6) (HX2b.out.on C6), by show 1 ≤ 1048576; omega⟩
      · simp only [List.mem_cons, List.not_mem_nil, or_false] at hx
        rcases hx with rfl | rfl
        · exact ⟨wkS2_at (HR3b.out.on C6) (HX3b.out.on C6), by show 1 ≤ 1048576; omega⟩
        · exact ⟨wkS3_at (HR4.out.on C6) (HX4.out.on C6), by show 1 ≤ 1048576; omega⟩
  have hcon := merge_law _ 2 2 _ wf hSLL
  have HB6 := hidden (HB4.out.trans (C6.mono HB4.out.size))
  rw [s5, hp5] at hcon
  subst hwf hwe
  rw [hp5]
  refine hcon.mono ?_
  rintro e w4 ⟨A, c, L, rfl, _, hsl, hcan, heqv, hb4, _⟩
  have hsk : L.map Ser.sk = wakeOut := canon_unique hcan wake_canon (heqv.trans wake_eqv.symm)
  have HB7 := hidden (HB6.out.trans (hb4.mono HB6.out.size))
  have HSL := hidden hsl
  have HSK := hidden hsk
  have hll : L.length = 2 := by have := congrArg List.length hsk; rw [List.length_map] at this; exact this
  clear hcon hSLL hcan heqv hb4 X5 B5 X6 B6 C6 HS2b HX2b HR2b HX3b HR3b HR4 HX4 HB4 HB6 s5 s6 hp5
  -- the first one's cells
  obtain ⟨gl, ol, x0, hA, _, hx0, hc0⟩ := row_at (enc := Ser.cells) SrtSer.hk hsl.row hsl.len 0 (by omega)
  have hx0k : x0.sk = (wlx, [⟨5, 1⟩, ⟨6, 3⟩, ⟨7, 2⟩], []) := by
    have := congrArg (fun l => l[0]?) hsk
    simp only [List.getElem?_map, hx0] at this
    exact Option.some.inj this
  have hx0l : x0.smp.l = [⟨5, 1⟩, ⟨6, 3⟩, ⟨7, 2⟩] := congrArg (fun s => s.2.1) hx0k
  have hx0a := (hsl.at_ x0 (List.mem_of_getElem? hx0)).smp
  have hx0n : x0.smp.n = 3 := by rw [← hx0a.2.1, hx0l]; rfl
  have d1 : w4.cell? ⟨gl, ol + 1, none⟩ = some (.slice x0.smp.A 3 x0.smp.c) := by
    have := hc0 1 (by omega)
    rw [← hx0n]
    rw [Nat.zero_mul, Nat.add_zero] at this
    exact this
  obtain ⟨gp, op, hpA, _, hpc⟩ := hx0a.2.2.at_ (by omega)
  rw [hx0l] at hpc
  have e0 : w4.cell? ⟨gp, op, none⟩ = some (.int .i64 5) := hpc 0 (by omega)
  have e1 : w4.cell? ⟨gp, op + 1, none⟩ = some (.int .u64 1) := hpc 1 (by omega)
  have e3 : w4.cell? ⟨gp, op + 3, none⟩ = some (.int .u64 3) := hpc 3 (by omega)
  rw [hpA] at d1
  subst hA
  rw [hll] at hsl ⊢
  have S1 := hidden (clip_law (some ⟨gl, ol, none⟩) 2 c L 6 9 w4 hsl)
  have S2 := hidden (fun (w' : World) (hb : Below w4.heap.size w4 w') => stripF_law 0 (some ⟨gl, ol, none⟩) 2 c L none 0 0 [] w' (hsl.on hb).sf ⟨Row.nil, rfl, by simp, by omega, by simp⟩)
  clear hsl hsk hc0 hx0 hx0k hx0l hx0a hx0n hpA hpc HSL hll
  go_wp2_with fail
  refine S1.out.mono ?_
  rintro e w5 ⟨A5, c5, L5, rfl, _, h5, hb5, _⟩
  have hl5 : L5.length = 1 := by
    have := congrArg List.length h5
    rw [List.length_map, clipAll_sk, HSK.out, wake_clip] at this
    exact this
  rw [hl5]
  have HB5 := hidden hb5
  have S3 := hidden (S2.out w5 hb5)
  clear h5 hl5 hb5 S1 S2 d1 e0 e1 e3
  go_wp2_with fail
  refine S3.out.mono ?_
  rintro e w6 ⟨A6, c6, L6, rfl, _, h6, hb6, _⟩
  have hl6 : L6.length = 2 := by
    have := congrArg List.length h6
    rw [List.length_map, stripAll_sk, HSK.out, wake_strip] at this
    exact this
  rw [hl6]
  have HB8 := hidden ((HB7.out.trans (HB5.out.mono HB7.out.size)).trans (hb6.mono (by have := HB7.out.size; have := HB5.out.size; omega)))
  clear h6 hl6 hb6 S3
  go_wp2_with fail
  go_ret
  exact ⟨rfl, HB8.out⟩
end Go.Proofs.Ytohocdbneopooaa

namespace Go.Proofs.Ytohocdbneopooaa
set_option maxRecDepth 100000
open Go.RowKit

section
variable {H : Type} {enc : TypeId × Value → H} {P : Program} {W : World} {b : Nat}

/-- A value of type t reads as one of f's values, its weight at most its bulk. -/
def OpensB (enc : TypeId × Value → H) (P : Program) (W : World) (b : Nat) (t : TypeId) {α : Type} (f : α → List Value) (G : α → Prop) (wt : α → Nat) : Prop :=
  ∀ (fuel : Nat) (cs : List Value) (x : DataW H × List MemPlace), DataW.trod enc P W 0 (fun _ => true) true fuel t cs = some x → Fits P W b t x → ∃ a, cs = f a ∧ G a ∧ wt a ≤ Rows.uptoBulk x.1
theorem Opens.one {t : TypeId} {α : Type} {f : α → List Value} {G : α → Prop} (h : Opens enc P W b t f G) : OpensB enc P W b t f G (fun _ => 1) := by
  intro fuel cs x hx hf
  obtain ⟨a, h1, h2⟩ := h fuel cs x hx hf
  exact ⟨a, h1, h2, bulk_pos _⟩
theorem bulk_sum {α : Type} {wt : α → Nat} {R : Nat → α} {D : Nat → DataW H} : ∀ (n : Nat), (∀ i, i < n → wt (R i) ≤ Rows.uptoBulk (D i)) → (((List.range n).map R).map wt).sum ≤ Rows.uptoBulkAll ((List.range n).map D) := by
  have happ : ∀ (l : List (DataW H)) (d : DataW H), Rows.uptoBulkAll (l ++ [d]) = Rows.uptoBulkAll l + Rows.uptoBulk d := by
    intro l d
    induction l with
    | nil => simp [Rows.uptoBulkAll]
    | cons x l ih => simp only [List.cons_append, Rows.uptoBulkAll]; omega
  intro n
  induction n with
  | zero => intro _; simp [Rows.uptoBulkAll]
  | succ n ih =>
    intro h
    have h1 := ih fun i hi => h i (by omega)
    have h2 := h n (by omega)
    rw [List.range_succ, List.map_append, List.map_append, List.map_append, List.sum_append, List.map_singleton, List.map_singleton, List.map_singleton, happ]
    simp only [List.sum_cons, List.sum_nil]
    omega

/-- a slice of what opens -/
theorem opens_slice_b {t e : TypeId} {α : Type} [Inhabited α] {f : α → List Value} {G : α → Prop} {wt : α → Nat} {k : Nat} (ht : P.underlying t = some (.slice e)) (hC : P.cellsOf e = k) (hk : 0 < k) (hlen : ∀ a, (f a).length = k) (he : OpensB enc P W b e f G wt) :
    OpensB enc P W b t (fun s : Sl α => [s.val]) (fun s => s.At W W.heap.size k f ∧ (∀ a ∈ s.l, G a) ∧ s.n * P.bytesOf e ≤ reachBytes ∧ s.n ≤ b) (fun s => (s.l.map wt).sum) := by
  intro fuel cs x h hf
  rcases Deep.open_slice ht h with ⟨hcs, hx⟩ | ⟨a, len, cap, m, n', D, Pl, hcs, _, hl, hm, hmm, hx, hi⟩
  · exact ⟨Sl.nil, hcs, ⟨⟨Nat.le_refl _, rfl, Row.nil⟩, by simp [Sl.nil], by simp [Sl.nil], Nat.zero_le _⟩, Nat.zero_le _⟩
  · simp only [if_true] at hmm
    subst hmm
    have hw0 := hf.light
    have hb0 := hf.small
    have ho0 := hf.old
    rw [hx] at hw0 hb0 ho0
    simp only [DataW.weights, ht, Rows.uptoBulk] at hw0 hb0
    have hel : ∀ i, i < len → ∃ y : α, (G y ∧ wt y ≤ Rows.uptoBulk (D i)) ∧ ∀ j, j < k → W.cell? (a.add (i * k + j)) = (f y)[j]? := by
      intro i hin
      obtain ⟨cs', hc, ht'⟩ := hi i (by omega)
      rw [hC] at hc
      have hDm : D i ∈ (List.range len).map D := List.mem_map.2 ⟨i, List.mem_range.2 hin, rfl⟩
      obtain ⟨y, hy, hG, hwt⟩ := he _ _ _ ht' ⟨fun p hp => ho0 p (List.mem_append_right _ (List.mem_flatMap.2 ⟨i, List.mem_range.2 (by omega), hp⟩)),
        fun q hq => hw0 q (List.mem_cons_of_mem _ (List.mem_append_left _ (weights_all hDm hq))), by have := bulk_mem hDm; simp only; omega⟩
      obtain ⟨_, hcl, hat⟩ := World.cells?_some hc
      refine ⟨y, ⟨hG, hwt⟩, fun j hj => ?_⟩
      rw [← hy, ← Deep.add_add]
      exact hat j (by omega)
    obtain ⟨R, hR⟩ := Deep.choose_lt (α := α) hel
    have hflat : ∀ (m : Nat), m ≤ len → (((List.range m).map R).flatMap f).length = m * k ∧ ∀ j, j < m * k → W.cell? (a.add j) = (((List.range m).map R).flatMap f)[j]? := by
      intro m
      induction m with
      | zero => intro _; exact ⟨by simp, fun j hj => by simp at hj⟩
      | succ m ih =>
        intro hm'
        obtain ⟨i1, i2⟩ := ih (by omega)
        obtain ⟨_, hr2⟩ := hR m (by omega)
        rw [List.range_succ, List.map_append, List.flatMap_append, List.map_cons, List.map_nil, List.flatMap_cons, List.flatMap_nil, List.append_nil]
        refine ⟨by rw [List.length_append, i1, hlen, Nat.succ_mul], fun j hj => ?_⟩
        rw [Nat.succ_mul] at hj
        rcases Nat.lt_or_ge j (m * k) with h1 | h1
        · rw [List.getElem?_append_left (by omega)]; exact i2 j h1
        · rw [List.getElem?_append_right (by omega), i1, ← hr2 _ (by omega), show m * k + (j - m * k) = j from by omega]
    obtain ⟨h1, h2⟩ := hflat len (Nat.le_refl _)
    refine ⟨⟨some a, len, m, (List.range len).map R⟩, hcs, ⟨⟨by simpa using hl, by simp, h1, fun hn => ?_⟩, ?_, ?_, ?_⟩, ?_⟩
    · obtain ⟨bk, off, spot⟩ := a
      have hpk : 0 < len * k := Nat.mul_pos hn hk
      have hc0 := h2 0 hpk
      have hsp : spot = none := by
        rw [List.getElem?_eq_getElem (by rw [h1]; exact hpk)] at hc0
        simpa [Addr.add] using World.cell?_spot hc0
      subst hsp
      refine ⟨bk, off, rfl, ?_, fun j hj => by rw [← h2 j hj, Addr.add_lit]⟩
      refine ho0 (.cell bk off) ?_
      refine List.mem_append_left _ (MemPlace.mem_row.2 ⟨0, ?_, by simp⟩)
      rw [hC]
      exact Nat.mul_pos (by simp only at hn; omega) hk
    · intro r hr
      simp only [List.mem_map, List.mem_range] at hr
      obtain ⟨i, hi', rfl⟩ := hr
      exact (hR i hi').1.1
    · have := hw0 _ (List.mem_cons_self ..)
      simp only [List.length_map, List.length_range] at this
      exact Nat.le_trans (Nat.mul_le_mul_right _ (Nat.le_add_right _ _)) this
    · have := bulk_len ((List.range len).map D)
      simp only [List.length_map, List.length_range] at this
      simp only; omega
    · have := bulk_sum (wt := wt) (R := R) (D := D) len fun i hi => (hR i hi).1.2
      rw [hx]
      simp only [Rows.uptoBulk]
      omega

/-- the fields of a struct whose fields are of one cell each, their bulks in sum -/
theorem open_ones_b {e : TypeId} {fs : Array Field} (he : P.underlying e = some (.struct fs)) (hone : Deep.oneCellFields P fs = true) (hC : P.cellsOf e = fs.size) {fuel : Nat} {cs : List Value} {x : DataW H × List MemPlace} (h : DataW.trod enc P W 0 (fun _ => true) true fuel e cs = some x) (hf : Fits P W b e x) :
    ∃ (n : Nat) (ys : List (DataW H × List MemPlace)), cs.length = fs.size ∧ ys.length = fs.size ∧ Rows.uptoBulkAll (ys.map Prod.fst) + 1 = Rows.uptoBulk x.1 ∧ ∀ (i : Nat) (f : Field), fs[i]? = some f → ∃ u y, cs[i]? = some u ∧ ys[i]? = some y ∧ DataW.trod enc P W 0 (fun _ => true) true n f.type [u] = some y ∧ Fits P W b f.type y := by
  obtain ⟨xs, n, _, rfl, hl, hlen, hfl⟩ := DataW.trod_struct he h
  rw [hC] at hl
  refine ⟨n, xs, hl, hlen, rfl, fun i f hi => ?_⟩
  have hif := (Array.getElem?_eq_some_iff.1 hi).1
  have hil : i < xs.length := by rw [hlen]; exact hif
  have hxi : xs[i]? = some xs[i] := List.getElem?_eq_getElem hil
  have hm := List.mem_of_getElem? hxi
  have h1 := hfl i f hi
  obtain ⟨ho, hk1⟩ := Deep.hone_of hone i _ hi
  rw [ho, hk1, List.drop_eq_getElem_cons (by omega)] at h1
  refine ⟨cs[i]'(by omega), xs[i], List.getElem?_eq_getElem (by omega), hxi, by rw [← hxi]; exact h1, ⟨fun p hp => hf.old p (List.mem_flatMap.2 ⟨_, hm, hp⟩), fun k hk => hf.light k ?_, ?_⟩⟩
  · simp only [DataW.weights, he]
    refine weights_each (i := i) (t := f.type) (d := xs[i].1) ?_ (by rw [List.getElem?_map, hxi]; rfl) hk
    rw [List.getElem?_map, Array.getElem?_toList, hi]; rfl
  · have h1 : Rows.uptoBulkAll (xs.map Prod.fst) + 1 ≤ b := hf.small
    have h2 := bulk_mem (List.mem_map_of_mem (f := Prod.fst) hm)
    omega
end

section
variable {H : Type} {enc : TypeId × Value → H} {W : World} {b : Nat}
set_option maxRecDepth 100000 in
theorem opens_ser_b : OpensB enc Try.prog W b 46 Ser.cells (fun s => s.At W W.heap.size ∧ s.Ok b) (fun s => s.smp.n + s.win.n + 1) := by
  intro fuel cs x h hf
  obtain ⟨n, ys, hl, hyl, hsum, hp⟩ := open_ones_b Try.underlying46 (by kernel_rfl) (by kernel_rfl) h hf
  obtain ⟨u0, y0, c0, z0, t0, f0⟩ := hp 0 _ rfl
  obtain ⟨u1, y1, c1, z1, t1, f1⟩ := hp 1 _ rfl
  obtain ⟨u2, y2, c2, z2, t2, f2⟩ := hp 2 _ rfl
  obtain ⟨s0, e0, g0, _⟩ := opens_slice_b (k := 2) (f := Lbl.cells) Try.underlying42 (by kernel_rfl) (by decide) (fun _ => rfl) opens_lbl.one _ _ _ t0 f0
  obtain ⟨s1, e1, g1, w1⟩ := opens_slice_b (k := 2) (f := Smp.cells) Try.underlying43 (by kernel_rfl) (by decide) (fun _ => rfl) opens_smp.one _ _ _ t1 f1
  obtain ⟨s2, e2, g2, w2⟩ := opens_slice_b (k := 6) (f := Win.cells) Try.underlying44 (by kernel_rfl) (by decide) (fun _ => rfl) opens_win.one _ _ _ t2 f2
  simp only [List.cons.injEq, and_true] at e0 e1 e2
  subst e0 e1 e2
  have hone : ∀ {α : Type} (l : List α), (l.map fun _ => 1).sum = l.length := fun l => by
    induction l with
    | nil => rfl
    | cons a l ih => simp only [List.map_cons, List.sum_cons, List.length_cons, ih]; omega
  simp only [hone] at w1 w2
  have a1 := g1.1.2.1
  have a2 := g2.1.2.1
  match cs, hl, ys, hyl with
  | [a, c, d], _, [p, q, r], _ =>
    simp only [List.getElem?_cons_zero, List.getElem?_cons_succ, Option.some.injEq] at c0 c1 c2 z0 z1 z2
    subst z0 z1 z2
    have hb0 := bulk_pos p.1
    simp only [List.map_cons, List.map_nil, Rows.uptoBulkAll] at hsum
    refine ⟨⟨s0, s1, s2⟩, by rw [c0, c1, c2]; rfl, ⟨⟨g0.1, g1.1, g2.1⟩, g1.2.1, g2.2.1, g0.2.2.1, g1.2.2.1, g2.2.2.1, g0.2.2.2, g1.2.2.2, g2.2.2.2⟩, ?_⟩
    show s1.n + s2.n + 1 ≤ _
    omega
theorem opens_sers_b : OpensB enc Try.prog W b 24 (fun s : Sl Ser => [s.val]) (fun s => s.At W W.heap.size 3 Ser.cells ∧ (∀ x ∈ s.l, x.At W W.heap.size ∧ x.Ok b) ∧ s.n * Try.prog.bytesOf 46 ≤ reachBytes ∧ s.n ≤ b) (fun s => (s.l.map fun x => x.smp.n + x.win.n + 1).sum) :=
  opens_slice_b (k := 3) (f := Ser.cells) Try.underlying24 (by kernel_rfl) (by decide) (fun _ => rfl) opens_ser_b
end
end Go.Proofs.Ytohocdbneopooaa

namespace Go.Proofs.Ytohocdbneopooaa
set_option maxRecDepth 100000
open Go.RowKit

def clip1 (a b : Int) (s : SK) : SK := (s.1, s.2.1.filter (fun y => inR a b y.t), s.2.2.filter (fun y => inR a b y.start))
theorem clip1_of (a b : Int) (k : List Lbl) : ∀ l : List SK, smpsOf k (l.map (clip1 a b)) = (smpsOf k l).filter (fun y => inR a b y.t) ∧ winsOf k (l.map (clip1 a b)) = (winsOf k l).filter (fun y => inR a b y.start)
  | [] => ⟨rfl, rfl⟩
  | x :: l => by
    obtain ⟨h1, h2⟩ := clip1_of a b k l
    have e : x :: l = [x] ++ l := rfl
    have e2 : (x :: l).map (clip1 a b) = [clip1 a b x] ++ l.map (clip1 a b) := rfl
    rw [e2, e, smpsOf_app, smpsOf_app, winsOf_app, winsOf_app, h1, h2, smpsOf_one, smpsOf_one, winsOf_one, winsOf_one, List.filter_append, List.filter_append]
    have hk : (clip1 a b x).1 = x.1 := rfl
    rw [hk]
    by_cases h : x.1 = k
    · rw [if_pos h, if_pos h, if_pos h, if_pos h]; exact ⟨rfl, rfl⟩
    · rw [if_neg h, if_neg h, if_neg h, if_neg h]; exact ⟨rfl, rfl⟩
theorem find_filter {α : Type} (tt : α → Int) (q : Int → Bool) (t : Int) (l : List α) : (l.filter fun x => q (tt x)).find? (fun x => tt x == t) = if q t = true then l.find? (fun x => tt x == t) else none := by
  induction l with
  | nil => simp
  | cons x l ih =>
    rw [List.filter_cons]
    by_cases ht : tt x = t
    · subst ht
      by_cases hq : q (tt x) = true
      · rw [if_pos hq, if_pos hq, List.find?_cons_of_pos (by simp), List.find?_cons_of_pos (by simp)]
      · rw [if_neg hq, ih, if_neg hq, if_neg hq]
    · have hb : ∀ r : List α, (x :: r).find? (fun x => tt x == t) = r.find? (fun x => tt x == t) := fun r => List.find?_cons_of_neg (by simpa using ht)
      by_cases hq : q (tt x) = true
      · rw [if_pos hq, hb, hb, ih]
      · rw [if_neg hq, hb, ih]
theorem sem_clip (a b : Int) (l : List SK) (k : List Lbl) (t : Int) : semS (clipSK a b l) k t = (if inR a b t = true then semS l k t else none) ∧ semW (clipSK a b l) k t = (if inR a b t = true then semW l k t else none) := by
  have he := eqv_fulls (l.map (clip1 a b)) k t
  have h1 : semS (clipSK a b l) k t = semS (l.map (clip1 a b)) k t := he.1
  have h2 : semW (clipSK a b l) k t = semW (l.map (clip1 a b)) k t := he.2
  rw [h1, h2]
  unfold semS semW
  rw [(clip1_of a b k l).1, (clip1_of a b k l).2]
  exact ⟨find_filter Smp.t (inR a b) t _, find_filter Win.start (inR a b) t _⟩
theorem canon_clip (a b : Int) {l : List SK} (h : Canon l) : Canon (clipSK a b l) := by
  have hmem : ∀ e ∈ clipSK a b l, ∃ s ∈ l, e = clip1 a b s := fun e he => by
    obtain ⟨s, hs, rfl⟩ := List.mem_map.1 (List.mem_filter.1 he).1
    exact ⟨s, hs, rfl⟩
  refine ⟨?_, fun e he => ?_, fun e he => ?_, fun e he => fulls_full _ e he⟩
  · have : (l.map (clip1 a b)).Pairwise fun x y => cmpLs x.1 y.1 < 0 := List.pairwise_map.2 h.order
    exact this.sublist List.filter_sublist
  · obtain ⟨s, hs, rfl⟩ := hmem e he
    exact (h.smps s hs).sublist List.filter_sublist
  · obtain ⟨s, hs, rfl⟩ := hmem e he
    exact (h.wins s hs).sublist List.filter_sublist
theorem clip_len (a b : Int) (l : List SK) : (clipSK a b l).length ≤ l.length ∧ MR.ssum (clipSK a b l) ≤ MR.ssum l := by
  constructor
  · refine Nat.le_trans (List.length_filter_le _ _) ?_
    rw [List.length_map]; exact Nat.le_refl _
  · refine Nat.le_trans (MR.ssum_fulls _) ?_
    induction l with
    | nil => exact Nat.le_refl _
    | cons x l ih =>
      have e : ∀ (x : SK) (l : List SK), MR.ssum (x :: l) = x.2.1.length + x.2.2.length + MR.ssum l := fun x l => by simp [MR.ssum]
      rw [List.map_cons, e, e]
      have h1 := List.length_filter_le (fun y : Smp => inR a b y.t) x.2.1
      have h2 := List.length_filter_le (fun y : Win => inR a b y.start) x.2.2
      have := ih
      simp only at *
      omega
/-- all times within the machine's integers -/
def InI (l : List SK) : Prop := ∀ s ∈ l, (∀ x ∈ s.2.1, -9223372036854775808 ≤ x.t ∧ x.t < 9223372036854775808) ∧ ∀ x ∈ s.2.2, -9223372036854775808 ≤ x.start ∧ x.start < 9223372036854775808
theorem sem_in {l : List SK} (h : InI l) (k : List Lbl) (t : Int) (ht : ¬ (-9223372036854775808 ≤ t ∧ t ≤ 9223372036854775807)) : semS l k t = none ∧ semW l k t = none := by
  constructor
  · refine List.find?_eq_none.2 fun x hx => ?_
    obtain ⟨s, hs, hxs⟩ := List.mem_flatMap.1 hx
    have := (h s (List.mem_filter.1 hs).1).1 x hxs
    simp only [beq_iff_eq]
    omega
  · refine List.find?_eq_none.2 fun x hx => ?_
    obtain ⟨s, hs, hxs⟩ := List.mem_flatMap.1 hx
    have := (h s (List.mem_filter.1 hs).1).2 x hxs
    simp only [beq_iff_eq]
    omega
theorem InI.app {a b : List SK} (h : InI a) (g : InI b) : InI (a ++ b) := fun s hs => by
  rcases List.mem_append.1 hs with hs | hs
  · exact h s hs
  · exact g s hs
theorem sem_none_of_eqv {W L : List SK} (h : Eqv W L) (hi : InI L) (k : List Lbl) (t : Int) (ht : ¬ (-9223372036854775808 ≤ t ∧ t ≤ 9223372036854775807)) : semS W k t = none ∧ semW W k t = none := by
  rw [(h k t).1, (h k t).2]
  exact sem_in hi k t ht
theorem inR_yes {a b t : Int} (h : a ≤ t ∧ t ≤ b) : inR a b t = true := by simp [inR, h.1, h.2]
theorem inR_no {a b t : Int} (h : ¬ (a ≤ t ∧ t ≤ b)) : inR a b t = false := by
  unfold inR
  by_cases h1 : a ≤ t
  · have : ¬ t ≤ b := fun h2 => h ⟨h1, h2⟩
    simp [this]
  · simp [h1]
/-- the whole range clips nothing away -/
theorem clip_whole {W L : List SK} (h : Eqv W L) (hi : InI L) (hc : Canon W) : clipSK (-9223372036854775808) 9223372036854775807 W = W := by
  refine canon_unique (canon_clip _ _ hc) hc fun k t => ?_
  rw [(sem_clip _ _ W k t).1, (sem_clip _ _ W k t).2]
  by_cases ht : -9223372036854775808 ≤ t ∧ t ≤ 9223372036854775807
  · rw [inR_yes ht, if_pos rfl, if_pos rfl]; exact ⟨rfl, rfl⟩
  · rw [inR_no ht, if_neg (by decide), if_neg (by decide), (sem_none_of_eqv h hi k t ht).1, (sem_none_of_eqv h hi k t ht).2]
    exact ⟨rfl, rfl⟩
/-- the halves make the whole -/
theorem eqv_halves {W L : List SK} (h : Eqv W L) (hi : InI L) (cut : Int) (_h1 : -9223372036854775808 ≤ cut) (_h2 : cut < 9223372036854775807) : Eqv (clipSK (cut + 1) 9223372036854775807 W ++ clipSK (-9223372036854775808) cut W) W := fun k t => by
  rw [semS_app, semW_app, (sem_clip _ _ W k t).1, (sem_clip _ _ W k t).2, (sem_clip _ _ W k t).1, (sem_clip _ _ W k t).2]
  by_cases ht : -9223372036854775808 ≤ t ∧ t ≤ 9223372036854775807
  · by_cases hc : t ≤ cut
    · rw [inR_no (by omega : ¬ (cut + 1 ≤ t ∧ t ≤ 9223372036854775807)), inR_yes ⟨ht.1, hc⟩]
      simp
    · rw [inR_yes (by omega : cut + 1 ≤ t ∧ t ≤ 9223372036854775807), inR_no (by omega : ¬ (-9223372036854775808 ≤ t ∧ t ≤ cut))]
      simp
  · obtain ⟨n1, n2⟩ := sem_none_of_eqv h hi k t ht
    rw [n1, n2]
    simp
theorem eqv_clip_app {W A B : List SK} (h : Eqv W (A ++ B)) (a b : Int) : Eqv (clipSK a b A ++ clipSK a b B) (clipSK a b W) := fun k t => by
  rw [semS_app, semW_app]
  simp only [(sem_clip _ _ _ k t).1, (sem_clip _ _ _ k t).2, (h k t).1, (h k t).2, semS_app, semW_app]
  by_cases hi : inR a b t = true
  · simp [hi]
  · simp [hi]
theorem eqv_again {W A B : List SK} (h : Eqv W (A ++ B)) : Eqv (W ++ (A ++ (B ++ W))) W := fun k t => by
  simp only [semS_app, semW_app, (h k t).1, (h k t).2]
  constructor
  · cases semS A k t <;> cases semS B k t <;> rfl
  · cases semW A k t <;> cases semW B k t <;> rfl

/-- a list of lists that has just been laid -/
theorem wsum_sk {w : World} {A : Option Addr} {n : Nat} {L : List Ser} (h : SL w A n L) : wsum L = MR.ssum (L.map Ser.sk) := (MR.ssum_ser L fun x hx => ⟨(h.at_ x hx).smp.2.1, (h.at_ x hx).win.2.1⟩).symm
theorem wsum_flat : ∀ (LL : List (Sl Ser)), wsum (LL.flatMap Sl.l) = (LL.map fun s => wsum s.l).sum
  | [] => rfl
  | s :: LL => by
    have ih := wsum_flat LL
    rw [List.flatMap_cons, List.map_cons, List.sum_cons, ← ih]
    unfold wsum
    rw [List.map_append, List.sum_append]
theorem sll_mk {w : World} {A : Option Addr} {n : Nat} {LL : List (Sl Ser)} (hr : Row w w.heap.size 1 A n (LL.map Sl.val)) (hl : LL.length = n) (h : ∀ s ∈ LL, SL w s.A s.n s.l ∧ s.n ≤ s.c) (ht : total LL ≤ 1099511627776) (hs : (LL.map fun s => wsum s.l).sum ≤ 1099511627776) (hn : n ≤ 1099511627776) : SLL w A n LL :=
  ⟨hr, hl, fun s hs => ⟨(h s hs).2, (h s hs).1.len, (h s hs).1.row⟩, fun s hs x hx => ⟨(h s hs).1.at_ x hx, ((h s hs).1.small x hx).1⟩, ht, by rw [wsum_flat]; exact hs, hn⟩
end Go.Proofs.Ytohocdbneopooaa

namespace Go.Proofs.Ytohocdbneopooaa
set_option maxRecDepth 100000
open Go.RowKit Go.WideShapes Go.ChangeShapes

/-- a list of series, as it lies, with its capacity -/
def SS (w : World) (s : Sl Ser) : Prop := SL w s.A s.n s.l ∧ s.n ≤ s.c
theorem SS.on {w w' : World} {s : Sl Ser} (h : SS w s) (hb : Below w.heap.size w w') : SS w' s := ⟨h.1.on hb, h.2⟩
theorem SS.nil (w : World) : SS w Sl.nil := ⟨SL.nil w, Nat.le_refl _⟩
def MResL (LL : List (Sl Ser)) (w : World) (e : Ending) (w' : World) : Prop :=
  ∃ s : Sl Ser, e = .returned (.slice s.A s.n s.c) ∧ SS w' s ∧ Canon (s.l.map Ser.sk) ∧ Eqv (s.l.map Ser.sk) (MR.allOf LL) ∧ Below w.heap.size w w' ∧ s.n ≤ total LL ∧ wsum s.l ≤ (LL.map fun s => wsum s.l).sum
theorem mergeK_law (w : World) (LL : List (Sl Ser)) (n : Nat) (hl : LL.length = n) (h : ∀ s ∈ LL, SS w s) (ht : total LL ≤ 1099511627776) (hs : (LL.map fun s => wsum s.l).sum ≤ 1099511627776) (hn : n ≤ 1099511627776) :
    Calls Try.prog 23 #[.slice (some ⟨w.heap.size, 0, none⟩) n n] (w.alloc (.cells (LL.map Sl.val).toArray 24)) (MResL LL w) := by
  have hb0 : Below w.heap.size w (w.alloc (.cells (LL.map Sl.val).toArray 24)) := (Below.refl _ _).alloc (Nat.le_refl _) _
  have hr : Row (w.alloc (.cells (LL.map Sl.val).toArray 24)) (w.alloc (.cells (LL.map Sl.val).toArray 24)).heap.size 1 (some ⟨w.heap.size, 0, none⟩) n (LL.map Sl.val) := (Row.fresh w 24 1 n (LL.map Sl.val) (by rw [List.length_map, hl, Nat.mul_one])).more (by rw [World.size_alloc]; exact Nat.le_refl _)
  have hS : SLL _ _ n LL := sll_mk hr hl (fun s hs => (h s hs).on hb0) ht hs hn
  refine (merge_law _ n n LL _ hS).mono ?_
  rintro e w' ⟨A, c, L, rfl, _, h1, h2, h3, h4, h5, h6, h7⟩
  refine ⟨⟨A, L.length, c, L⟩, rfl, ⟨h1, h7⟩, h2, h3, hb0.trans (h4.mono hb0.size), ?_, ?_⟩
  · rw [MR.allOf_len LL hS.at_] at h5; exact h5
  · have e1 := wsum_sk h1
    have e2 : MR.ssum (MR.allOf LL) = wsum (LL.flatMap Sl.l) := MR.ssum_ser _ fun u hu => by
      obtain ⟨s', hs', hu'⟩ := List.mem_flatMap.1 hu
      have := (hS.sers s' hs' u hu').1
      exact ⟨this.smp.2.1, this.win.2.1⟩
    rw [e2, wsum_flat] at h6
    show wsum L ≤ _
    omega
theorem clipK_law (s : Sl Ser) (a b : Int) (w : World) (h : SS w s) : Calls Try.prog 24 #[.slice s.A s.n s.c, .int .i64 a, .int .i64 b] w fun e w' =>
    ∃ s' : Sl Ser, e = .returned (.slice s'.A s'.n s'.c) ∧ SS w' s' ∧ s'.l.map Ser.sk = clipSK a b (s.l.map Ser.sk) ∧ Below w.heap.size w w' ∧ s'.n ≤ s.n ∧ wsum s'.l ≤ wsum s.l := by
  refine (clip_law s.A s.n s.c s.l a b w h.1).mono ?_
  rintro e w' ⟨A', c', L, rfl, h1, h2, h3, h4⟩
  rw [clipAll_sk] at h2
  obtain ⟨l1, l2⟩ := clip_len a b (s.l.map Ser.sk)
  refine ⟨⟨A', L.length, c', L⟩, rfl, ⟨h1, h4⟩, h2, h3, ?_, ?_⟩
  · rw [← h2, List.length_map, List.length_map, h.1.len] at l1; exact l1
  · rw [← h2, ← wsum_sk h1, ← wsum_sk h.1] at l2; exact l2
theorem allOf_two (a b : Sl Ser) : MR.allOf [a, b] = a.l.map Ser.sk ++ b.l.map Ser.sk := by simp [MR.allOf]
theorem allOf_one (a : Sl Ser) : MR.allOf [a] = a.l.map Ser.sk := by simp [MR.allOf]
theorem allOf_four (a b c d : Sl Ser) : MR.allOf [a, b, c, d] = a.l.map Ser.sk ++ (b.l.map Ser.sk ++ (c.l.map Ser.sk ++ d.l.map Ser.sk)) := by simp [MR.allOf]
theorem mem_two {w : World} {a b : Sl Ser} (ha : SS w a) (hb : SS w b) : ∀ s ∈ [a, b], SS w s := by
  intro s hs
  simp only [List.mem_cons, List.not_mem_nil, or_false] at hs
  rcases hs with rfl | rfl
  · exact ha
  · exact hb
theorem mem_one {w : World} {a : Sl Ser} (ha : SS w a) : ∀ s ∈ [a], SS w s := by
  intro s hs
  rw [List.mem_singleton.1 hs]; exact ha
theorem mem_four {w : World} {a b c d : Sl Ser} (ha : SS w a) (hb : SS w b) (hc : SS w c) (hd : SS w d) : ∀ s ∈ [a, b, c, d], SS w s := by
  intro s hs
  simp only [List.mem_cons, List.not_mem_nil, or_false] at hs
  rcases hs with rfl | rfl | rfl | rfl
  · exact ha
  · exact hb
  · exact hc
  · exact hd

theorem ini_of_ok {b : Nat} {l : List Ser} (h : ∀ x ∈ l, x.Ok b) : InI (l.map Ser.sk) := fun s hs => by
  obtain ⟨x, hx, rfl⟩ := List.mem_map.1 hs
  refine ⟨fun y hy => ⟨((h x hx).smps y hy).2.1, ((h x hx).smps y hy).2.2⟩, fun y hy => ?_⟩
  have := (h x hx).wins y hy
  exact ⟨this.2.1, this.2.2⟩
theorem wsum_le : ∀ (l : List Ser), wsum l + l.length = (l.map fun x => x.smp.n + x.win.n + 1).sum
  | [] => rfl
  | x :: l => by
    have ih := wsum_le l
    have e : wsum (x :: l) = x.smp.n + x.win.n + wsum l := by simp [wsum]
    rw [e, List.length_cons, List.map_cons, List.sum_cons, ← ih]
    omega
theorem ss_of_arg {b : Nat} {w : World} {s : Sl Ser} (hat : s.At w w.heap.size 3 Ser.cells) (hok : ∀ x ∈ s.l, x.At w w.heap.size ∧ x.Ok b) (hb : b ≤ 1048576) (hn : s.n ≤ b) : SS w s :=
  ⟨⟨hat.2.2, hat.2.1, fun x hx => (hok x hx).1, fun x hx => by have := (hok x hx).2.few; omega, by omega⟩, hat.1⟩
section
variable {H : Type} {enc : TypeId × Value → H} {P : Program} {W : World} {b : Nat}
theorem open_arg_slice_b {t e : TypeId} {α : Type} [Inhabited α] {f : α → List Value} {G : α → Prop} {wt : α → Nat} {k base : Nat} {v : Value} {d : DataW H} {ps : List MemPlace} (ht : P.underlying t = some (.slice e)) (hC : P.cellsOf e = k) (hk : 0 < k) (hlen : ∀ a, (f a).length = k) (he : OpensB enc P W b e f G wt)
    (hv : Value.okWide P W .any base t v) (h : DataW.Trod enc P W 0 (fun _ => true) true t v d ps) (hF : Fits P W b t (d, ps)) :
    ∃ s : Sl α, v = s.val ∧ (s.At W W.heap.size k f ∧ (∀ a ∈ s.l, G a) ∧ s.n * P.bytesOf e ≤ reachBytes ∧ s.n ≤ b) ∧ (s.l.map wt).sum ≤ b := by
  obtain ⟨A, n, c, rfl⟩ := okWide_slice ht hv
  obtain ⟨fuel, hf⟩ := h
  obtain ⟨s, hs, hG, hw⟩ := opens_slice_b ht hC hk hlen he _ _ _ hf hF
  simp only [Value.cells, List.cons.injEq, and_true] at hs
  exact ⟨s, hs, hG, Nat.le_trans hw hF.small⟩
end

end Go.Proofs.Ytohocdbneopooaa
