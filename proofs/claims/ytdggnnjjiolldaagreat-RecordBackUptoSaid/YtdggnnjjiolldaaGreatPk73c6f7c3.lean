/- record.Decode, walked. Condition: the text has at most 2^32 bytes. -/
import Derived.Test.YtdggnnjjiolldaaGreatPka76358c1
import Derived.Test.YtdggnnjjiolldaaGreatPk14730caa
import Derived.Test.YtdggnnjjiolldaaGreatPk9f822b0a
import Derived.Defers
import Derived.Recover
namespace Go.Proofs.YtdggnnjjiolldaaGreat
set_option maxRecDepth 100000
open Go.RowKit Go.Shelf

/-- the world behind what the deferred closure writes -/
def wiped (O E : Nat) (w : World) : World := (((w.setCell ⟨O, 0, none⟩ (.slice none 0 0)).setCell ⟨O, 1, none⟩ (.slice none 0 0)).setCell ⟨O, 2, none⟩ (.slice none 0 0)).setCell ⟨E, 0, none⟩ (.int .i64 150)
set_option maxHeartbeats 1600000 in
theorem catch_panicking (O E : Nat) (v0 v1 v2 x : Value) (t : TypeId) (pv : Value) (w : World) (hO : Whole1 w O 26 #[v0, v1, v2]) (hE : Whole1 w E 27 #[x]) :
    CallsD Tryz.prog 26 #[.pointer (some ⟨O, 0, none⟩), .pointer (some ⟨E, 0, none⟩)] (.panicking [{ v := .iface t pv, recovered := false }]) w fun e u' w' =>
      e = .returned (.tuple #[]) ∧ u' = .panicking [{ v := .iface t pv, recovered := true }] ∧ w' = wiped O E w := by
  have f0 := hO.free 0
  have f1 := hO.free 1
  have f2 := hO.free 2
  have c0 := hO.cell 0
  have c1 := hO.cell 1
  have c2 := hO.cell 2
  have hEO := hE.apart hO (by decide)
  have hE3 := ((hE.off (p := ⟨O, 0, none⟩) hEO (.slice none 0 0)).off (p := ⟨O, 1, none⟩) hEO (.slice none 0 0)).off (p := ⟨O, 2, none⟩) hEO (.slice none 0 0)
  have e0 := hE3.cell 0
  have g0 := hE3.free 0
  clear hE3 hEO
  refine callsD_of_wpS Tryz.func26 rfl fun c₀ cs hu => ?_
  apply wpS_seq
  apply wpS_region
  simp [wpOpsS, go_sem, recoverD, hu, Tryz.ntmps26, Exit.thenS]
  refine wpS_cond (t := true) (by simp [Act.eval, Array.replicate]) ?_
  simp only [if_true]
  refine wpS_of_wp ?_
  change Code.wp _ _ _ { tmps := #[.pointer (some ⟨O, 0, none⟩), .pointer (some ⟨E, 0, none⟩), .iface t pv, .bool true, undef], defers := [] } w
  go_wp2_with fail
  simp [bodyPostS, results, Tryz.results26, wiped]

theorem wiped_is {O E : Nat} {v0 v1 v2 x : Value} {w : World} (hO : Whole1 w O 26 #[v0, v1, v2]) (hE : Whole1 w E 27 #[x]) :
    Whole1 (wiped O E w) O 26 #[.slice none 0 0, .slice none 0 0, .slice none 0 0] ∧ Whole1 (wiped O E w) E 27 #[.int .i64 150] := by
  have hEO := hE.apart hO (by decide)
  have hE3 := ((hE.off (p := ⟨O, 0, none⟩) hEO (.slice none 0 0)).off (p := ⟨O, 1, none⟩) hEO (.slice none 0 0)).off (p := ⟨O, 2, none⟩) hEO (.slice none 0 0)
  have hO3 := ((hO.put 0 (.slice none 0 0)).put 1 (.slice none 0 0)).put 2 (.slice none 0 0)
  exact ⟨(hO3.off (p := ⟨E, 0, none⟩) (hO3.apart hE3 (by decide)) _), hE3.put 0 _⟩
theorem err3 {O E : Nat} {v0 v1 v2 x : Value} {w : World} (hO : Whole1 w O 26 #[v0, v1, v2]) (hE : Whole1 w E 27 #[x]) (a b c : Value) :
    Whole1 (((w.setCell ⟨O, 0, none⟩ a).setCell ⟨O, 1, none⟩ b).setCell ⟨O, 2, none⟩ c) O 26 #[a, b, c] ∧ Whole1 (((w.setCell ⟨O, 0, none⟩ a).setCell ⟨O, 1, none⟩ b).setCell ⟨O, 2, none⟩ c) E 27 #[x] := by
  have hEO := hE.apart hO (by decide)
  exact ⟨((hO.put 0 a).put 1 b).put 2 c, ((hE.off (p := ⟨O, 0, none⟩) hEO a).off (p := ⟨O, 1, none⟩) hEO b).off (p := ⟨O, 2, none⟩) hEO c⟩
theorem wiped_below {O E g : Nat} {w w0 : World} (h : Below g w0 w) (h1 : g ≤ O) (h2 : g ≤ E) : Below g w0 (wiped O E w) :=
  (((h.setCell (p := ⟨O, 0, none⟩) h1 _).setCell (p := ⟨O, 1, none⟩) h1 _).setCell (p := ⟨O, 2, none⟩) h1 _).setCell (p := ⟨E, 0, none⟩) h2 _
theorem catch_idle (O E : Nat) (w : World) :
    CallsD Tryz.prog 26 #[.pointer (some ⟨O, 0, none⟩), .pointer (some ⟨E, 0, none⟩)] .returning w fun e u' w' => e = .returned (.tuple #[]) ∧ u' = .returning ∧ w' = w := by
  refine callsD_of_wpS Tryz.func26 rfl fun c₀ cs hu => ?_
  apply wpS_seq
  apply wpS_region
  simp [wpOpsS, go_sem, recoverD, hu, Tryz.ntmps26, Exit.thenS]
  refine wpS_cond (t := false) (by simp [Act.eval, Array.replicate]) ?_
  simp only [Bool.false_eq_true, if_false]
  refine wpS_of_wp (wp_skip ?_)
  cases c₀
  simp_all [bodyPostS, results, Tryz.results26]

theorem stepN_last {s : List UInt8} {σ τ : PS} (h : stepN s σ = some τ) : τ.last = σ.last := by
  unfold stepN at h
  obtain ⟨x, hx, h⟩ := Option.bind_eq_some_iff.1 h
  split at h
  · simp only [Option.some.injEq] at h; rw [← h]
  · cases h
theorem iterN_last {s : List UInt8} : ∀ (k : Nat) {σ τ : PS}, iter (stepN s) k σ = some τ → τ.last = σ.last := by
  intro k
  induction k with
  | zero => intro σ τ h; simp only [iter, Option.some.injEq] at h; rw [h]
  | succ k ih =>
    intro σ τ h
    obtain ⟨ρ, h1, h2⟩ := Option.bind_eq_some_iff.1 h
    rw [ih h2, stepN_last h1]
theorem timesN_last {s : List UInt8} {σ τ : PS} (h : timesP s (stepN s) σ = some τ) : τ.last = σ.last := by
  obtain ⟨x, hx, h⟩ := Option.bind_eq_some_iff.1 h
  have := iterN_last _ h
  exact this
theorem DAt.rebase {w0 : World} {g O E V Rd bP bP' : Nat} {s : List UInt8} {σ : PS} {N : List NewR} {G : List GonR} {vN vG : Value} {w : World} (h : DAt w0 g O E V Rd bP s σ N G vN (.slice none 0 0) vG w) (hb : bP' ≤ w.heap.size) : DAt w0 g O E V Rd bP' s σ N G vN (.slice none 0 0) vG w := by
  refine ⟨h.out, h.err, h.var, h.rd, h.nown, ⟨h.pown.1, ?_⟩, h.gown, h.labs, h.spns, h.nv, h.gv, h.below, h.base, h.gO, h.gE, h.gR, hb⟩
  rcases h.pown.2 with k | ⟨g, cap, cur, hv, _⟩
  · exact .inl k
  · cases hv

/-- a record that has been read, in memory of its own -/
structure DR (g : Nat) (σ : PS) (r : RecR) (w : World) : Prop where
  nown : w.ownsRow g 59 2 r.news.val r.news.l.length (r.news.l.flatMap NewR.cells)
  pown : w.ownsRow g 62 3 r.pts.val r.pts.l.length (r.pts.l.flatMap PntR.cells)
  gown : w.ownsRow g 66 3 r.gones.val r.gones.l.length (r.gones.l.flatMap GonR.cells)
  labs : ∀ x ∈ r.news.l, w.ownsRow g 108 2 x.lab.val x.lab.l.length (x.lab.l.flatMap Lbl.cells)
  spns : ∀ x ∈ r.gones.l, w.ownsRow g 101 2 x.sp.val x.sp.l.length (x.sp.l.flatMap Spn.cells)
  nv : r.news.l.map newV = σ.news
  pv : r.pts.l = σ.pts
  gv : r.gones.l.map gonV = σ.gones
theorem DR.on {g : Nat} {σ : PS} {r : RecR} {w w' : World} (h : DR g σ r w) (hb : Below w.heap.size w w') : DR g σ r w' :=
  ⟨own_below h.nown hb (Nat.le_refl _), own_below h.pown hb (Nat.le_refl _), own_below h.gown hb (Nat.le_refl _), fun x hx => own_below (h.labs x hx) hb (Nat.le_refl _), fun x hx => own_below (h.spns x hx) hb (Nat.le_refl _), h.nv, h.pv, h.gv⟩
theorem sl_own {α : Type} {f : α → List Value} {w : World} {g size : Nat} {e : TypeId} {s : Sl α} (h : w.ownsRow g e size s.val s.l.length (s.l.flatMap f)) : s.At w w.heap.size size f := by
  obtain ⟨A, c, hv, hc, hr⟩ := own_shape h
  obtain ⟨sA, sn, sc, sl⟩ := s
  simp only [Sl.val, Value.slice.injEq] at hv
  obtain ⟨rfl, rfl, rfl⟩ := hv
  exact ⟨hc, rfl, hr⟩
theorem DR.off {g : Nat} {σ : PS} {r : RecR} {w : World} {b : Nat} {T : TypeId} {cs : Array Value} (h : DR g σ r w) (hW : Whole1 w b T cs) (h1 : T ≠ 59) (h2 : T ≠ 62) (h3 : T ≠ 66) (h4 : T ≠ 108) (h5 : T ≠ 101) (i : Nat) (v : Value) : DR g σ r (w.setCell ⟨b, i, none⟩ v) :=
  ⟨Go.ownsRow_setCell_other h.nown (a := ⟨b, i, none⟩) (own_neT h.nown hW h1) _, Go.ownsRow_setCell_other h.pown (a := ⟨b, i, none⟩) (own_neT h.pown hW h2) _, Go.ownsRow_setCell_other h.gown (a := ⟨b, i, none⟩) (own_neT h.gown hW h3) _,
    fun x hx => Go.ownsRow_setCell_other (h.labs x hx) (a := ⟨b, i, none⟩) (own_neT (h.labs x hx) hW h4) _, fun x hx => Go.ownsRow_setCell_other (h.spns x hx) (a := ⟨b, i, none⟩) (own_neT (h.spns x hx) hW h5) _, h.nv, h.pv, h.gv⟩
theorem cast_sum {α : Type} (f : α → Nat) (l : List α) : (l.map fun x => ((f x : Nat) : Int)).sum = ((l.map f).sum : Nat) := by
  induction l with
  | nil => rfl
  | cons x l ih => simp only [List.map_cons, List.sum_cons, ih]; omega
theorem DR.At {g : Nat} {s : List UInt8} {σ : PS} {r : RecR} {w : World} (h : DR g σ r w) (ho : σ.Ok s) (hs : s.length ≤ 4294967296) : r.At w := by
  have hn := sl_own h.nown
  have hp := sl_own h.pown
  have hg := sl_own h.gown
  have ln : r.news.l.length = σ.news.length := by rw [← h.nv, List.length_map]
  have lp : r.pts.l.length = σ.pts.length := by rw [h.pv]
  have lg : r.gones.l.length = σ.gones.length := by rw [← h.gv, List.length_map]
  have hN : ∀ x ∈ r.news.l, 0 ≤ x.ref ∧ x.ref ≤ 4611686018427387904 ∧ validP x.lab.l := fun x hx => ho.news (newV x) (by rw [← h.nv]; exact List.mem_map_of_mem hx)
  have hG : ∀ x ∈ r.gones.l, (0 ≤ x.ref ∧ x.ref ≤ 4611686018427387904) ∧ (0 ≤ x.res ∧ x.res ≤ 4611686018427387904) ∧ OneS x.sp.l ∧ ∀ y ∈ x.sp.l, y.ok := fun x hx => ho.gones (gonV x) (by rw [← h.gv]; exact List.mem_map_of_mem hx)
  have o1 := ho.nn
  have o2 := ho.pn
  have o3 := ho.gn
  have o4 := ho.sn
  have o5 := ho.hi
  refine ⟨hn, fun x hx => ?_, fun x hx => ?_, hp, fun x hx => ?_, hg, fun x hx => ⟨sl_own (h.spns x hx), (hG x hx).2.2.2⟩, fun x hx => ?_, ?_, ?_, ?_, ?_⟩
  · have hl := sl_own (h.labs x hx)
    obtain ⟨k1, k2⟩ := valid_small (hN x hx).2.2
    exact ⟨⟨hl.2.2, hl.2.1, by have := hl.2.1; omega, fun y hy => by have := k2 y hy; omega⟩, hl.1⟩
  · have := hN x hx; omega
  · rw [h.pv] at hx; have := ho.pts x hx; omega
  · have := hG x hx; omega
  · have := hn.2.1; omega
  · have := hp.2.1; omega
  · have := hg.2.1; omega
  · have e : (r.gones.l.map fun x => x.sp.n) = r.gones.l.map fun x => x.sp.l.length := List.map_congr_left fun x hx => (sl_own (h.spns x hx)).2.1.symm
    rw [← h.gv, cast_sum, List.map_map] at o4
    rw [e]
    have e2 : (r.gones.l.map ((fun x : Int × Int × List Spn => x.2.2.length) ∘ gonV)) = r.gones.l.map fun x : GonR => x.sp.l.length := rfl
    rw [e2] at o4
    omega
theorem DAt.dr {w0 : World} {g O E V Rd bP : Nat} {s : List UInt8} {σ : PS} {N : List NewR} {G : List GonR} {vN vP vG : Value} {w : World} (h : DAt w0 g O E V Rd bP s σ N G vN vP vG w) (hb : g ≤ bP) : ∃ r : RecR, r.news.val = vN ∧ r.pts.val = vP ∧ r.gones.val = vG ∧ DR g σ r w := by
  obtain ⟨nA, nc, rfl, _, _⟩ := own_shape h.nown
  obtain ⟨pA, pc, rfl, _, _⟩ := own_shape h.pown
  obtain ⟨gA, gc, rfl, _, _⟩ := own_shape h.gown
  exact ⟨⟨⟨nA, _, nc, N⟩, ⟨pA, _, pc, σ.pts⟩, ⟨gA, _, gc, G⟩⟩, rfl, rfl, rfl, h.nown, own_down h.pown hb, h.gown, h.labs, h.spns, h.nv, rfl, h.gv⟩

/-- the bytes of what has been read -/
def newBv (x : Int × List Lbl) : List UInt8 := uintL x.1.toNat ++ (uintL x.2.length ++ encB x.2)
def gonBv (x : Int × Int × List Spn) : List UInt8 := uintL x.1.toNat ++ (uintL x.2.1.toNat ++ encL x.2.2)
def bitsP (σ : PS) : List UInt8 := uintL σ.news.length ++ σ.news.flatMap newBv ++ uintL σ.pts.length ++ pntsB pnt0 σ.pts ++ uintL σ.gones.length ++ σ.gones.flatMap gonBv
/-- may what has been read be written? -/
def fitPS (σ : PS) : Prop := (∀ x ∈ σ.news, fitRef x.1 ∧ validP x.2) ∧ (∀ x ∈ σ.pts, fitPnt x) ∧ (∀ x ∈ σ.gones, fitRef x.1 ∧ 0 ≤ x.2.1 ∧ x.2.1 < 3 ∧ x.2.2 ≠ [] ∧ OneS x.2.2) ∧ 0 < σ.news.length + σ.pts.length + σ.gones.length
open Classical in
/-- what a text is read as, if it is a record's -/
noncomputable def rightP (s : List UInt8) : Option PS := (decP s).bind fun σ => if fitPS σ ∧ bitsP σ = s then some σ else none
theorem rightP_yes {s : List UInt8} {σ : PS} (h : decP s = some σ) (h1 : fitPS σ) (h2 : bitsP σ = s) : rightP s = some σ := by
  rw [rightP, h, Option.bind_some, if_pos ⟨h1, h2⟩]
theorem rightP_no {s : List UInt8} {σ : PS} (h : decP s = some σ) (h1 : ¬ (fitPS σ ∧ bitsP σ = s)) : rightP s = none := by
  rw [rightP, h, Option.bind_some, if_neg h1]
theorem rightP_some {s : List UInt8} {σ : PS} (h : rightP s = some σ) : decP s = some σ ∧ fitPS σ ∧ bitsP σ = s := by
  obtain ⟨ρ, h1, h2⟩ := Option.bind_eq_some_iff.1 h
  split at h2
  · rename_i k
    simp only [Option.some.injEq] at h2
    subst h2
    exact ⟨h1, k⟩
  · cases h2
/-- a record tells this -/
structure Tells (r : RecR) (σ : PS) : Prop where
  nv : r.news.l.map newV = σ.news
  pv : r.pts.l = σ.pts
  gv : r.gones.l.map gonV = σ.gones
  nn : r.news.n = r.news.l.length
  pn : r.pts.n = r.pts.l.length
  gn : r.gones.n = r.gones.l.length
theorem Tells.bits {r : RecR} {σ : PS} (h : Tells r σ) : recB r = bitsP σ := by
  rw [recB, bitsP, ← h.nv, ← h.pv, ← h.gv, List.length_map, List.length_map, List.flatMap_map, List.flatMap_map]
  rfl
theorem Tells.fit {r : RecR} {σ : PS} (h : Tells r σ) : fitRec r ↔ fitPS σ := by
  unfold fitRec fitPS
  rw [← h.nv, ← h.pv, ← h.gv, List.length_map, List.length_map, h.nn, h.pn, h.gn]
  simp only [List.mem_map]
  constructor
  · rintro ⟨h1, h2, h3, h4⟩
    exact ⟨by rintro _ ⟨x, hx, rfl⟩; exact h1 x hx, h2, by rintro _ ⟨x, hx, rfl⟩; exact h3 x hx, h4⟩
  · rintro ⟨h1, h2, h3, h4⟩
    exact ⟨fun x hx => h1 _ ⟨x, hx, rfl⟩, h2, fun x hx => h3 _ ⟨x, hx, rfl⟩, h4⟩
theorem DR.tells {g : Nat} {σ : PS} {r : RecR} {w : World} (h : DR g σ r w) : Tells r σ :=
  ⟨h.nv, h.pv, h.gv, (sl_own h.nown).2.1.symm, (sl_own h.pown).2.1.symm, (sl_own h.gown).2.1.symm⟩
theorem bitsP_pos (σ : PS) : 0 < (bitsP σ).length := by
  have := uintL_pos σ.gones.length
  rw [bitsP, List.length_append, List.length_append]; omega

set_option maxHeartbeats 3200000 in
theorem rdec_any (s : List UInt8) (w : World) (hs : s.length ≤ 4294967296) :
    Calls Tryz.prog 9 #[.string ⟨s.toArray⟩] w fun e w' =>
      Below w.heap.size w w' ∧ ((∃ σ r, rightP s = some σ ∧ DR w.heap.size σ r w' ∧ e = .returned (.tuple #[r.val, .int .i64 0])) ∨
        (rightP s = none ∧ e = .returned (.tuple #[.agg #[.slice none 0 0, .slice none 0 0, .slice none 0 0], .int .i64 150]))) := by
  have hmf : ∀ (fn : Fn) (first cap : Array Value) (w : World), (Instr.makeFunc fn first cap).run Tryz.prog w = .ok (.func fn first cap) w := fun _ _ _ _ => rfl
  obtain ⟨S, hS⟩ : ∃ S, (⟨s.toArray⟩ : ByteArray) = S := ⟨_, rfl⟩
  rw [hS]
  have HS := hidden hS
  clear hS
  have W2 : ∃ w4, (((w.alloc (.cells #[.slice none 0 0, .slice none 0 0, .slice none 0 0] 26)).alloc (.cells #[.int .i64 0] 27)).alloc (.cells #[.string S, .int .i64 0] 84)).alloc (.cells #[.pointer (some ⟨w.heap.size + 1 + 1, 0, none⟩)] 82) = w4 ∧
      DAt w w.heap.size w.heap.size (w.heap.size + 1) (w.heap.size + 1 + 1 + 1) (w.heap.size + 1 + 1) w.heap.size s ps0 [] [] (.slice none 0 0) (.slice none 0 0) (.slice none 0 0) w4 := by
    refine ⟨_, rfl, ?_⟩
    have o1 := Whole1.new w 26 #[.slice none 0 0, .slice none 0 0, .slice none 0 0]
    have o2 := Whole1.new (w.alloc (.cells #[.slice none 0 0, .slice none 0 0, .slice none 0 0] 26)) 27 #[.int .i64 0]
    have o3 := Whole1.new ((w.alloc (.cells #[.slice none 0 0, .slice none 0 0, .slice none 0 0] 26)).alloc (.cells #[.int .i64 0] 27)) 84 #[.string S, .int .i64 0]
    have o4 := Whole1.new (((w.alloc (.cells #[.slice none 0 0, .slice none 0 0, .slice none 0 0] 26)).alloc (.cells #[.int .i64 0] 27)).alloc (.cells #[.string S, .int .i64 0] 84)) 82 #[.pointer (some ⟨w.heap.size + 1 + 1, 0, none⟩)]
    simp only [World.size_alloc] at o2 o3 o4
    have hb : Below w.heap.size w ((((w.alloc (.cells #[.slice none 0 0, .slice none 0 0, .slice none 0 0] 26)).alloc (.cells #[.int .i64 0] 27)).alloc (.cells #[.string S, .int .i64 0] 84)).alloc (.cells #[.pointer (some ⟨w.heap.size + 1 + 1, 0, none⟩)] 82)) :=
      ((((Below.refl _ _).alloc (Nat.le_refl _) _).alloc (by simp [World.size_alloc]) _).alloc (by simp [World.size_alloc]; omega) _).alloc (by simp [World.size_alloc]; omega) _
    refine ⟨((o1.alloc _).alloc _).alloc _, (o2.alloc _).alloc _, o4, by rw [HS.out]; exact o3.alloc _, World.ownsRow_nil _ _ _ _, World.ownsRow_nil _ _ _ _, World.ownsRow_nil _ _ _ _, fun x hx => (List.not_mem_nil hx).elim, fun x hx => (List.not_mem_nil hx).elim, rfl, rfl, hb, rfl, Nat.le_refl _, by omega, by omega, by simp [World.size_alloc]; omega⟩
  obtain ⟨w4, hw4, h4⟩ := W2
  have HW4 := hidden hw4
  have H4 := hidden h4
  clear hw4 h4
  go_enter_defers Tryz.func9, Tryz.ntmps9
  go_wp2_with fail
  rw [HW4.out]
  obtain ⟨g, hg⟩ : ∃ g, w.heap.size = g := ⟨_, rfl⟩
  rw [hg] at H4 ⊢
  clear HW4
  have S1 := hidden (timesN_any w g g (g + 1) (g + 1 + 1) (g + 1 + 1 + 1) s (JN w g g (g + 1) (g + 1 + 1 + 1) (g + 1 + 1) g s [] (.slice none 0 0) (.slice none 0 0)) timN hs (fun σ w1 ho ⟨N, vN, h⟩ => (dec2_any w g g (g + 1) (g + 1 + 1 + 1) (g + 1 + 1) g s σ N [] vN _ _ w1 hs ho h).mono fun e w' k => by
    cases hst : stepN s σ with
    | none => rw [hst] at k; exact k
    | some τ => rw [hst] at k; exact k) ps0 w4 (ps0_ok s) ⟨_, _, H4.out⟩)
  obtain ⟨T, hT⟩ : ∃ T, timesP s (stepN s) ps0 = T := ⟨_, rfl⟩
  rw [hT] at S1
  cases T with
  | none =>
    have hR : rightP s = none := by rw [rightP, decP, hT]; rfl
    clear hT H4
    simp only at S1
    refine S1.out.mono ?_
    rintro e w' ⟨t, x, rfl, v0, v1, v2, hO, hE, hB⟩
    go_wp2_with fail
    have hW := wiped_is hO hE
    have q0 := hW.1.cell 0
    have q1 := hW.1.cell 1
    have q2 := hW.1.cell 2
    have q3 := hW.2.cell 0
    have HBW := hidden (wiped_below hB (Nat.le_refl g) (show g ≤ g + 1 by omega))
    refine leaves_cons (f := 26) (args := #[.pointer (some ⟨g, 0, none⟩), .pointer (some ⟨g + 1, 0, none⟩)]) (by simp) (by simp [go_sem]) ?_
    refine (catch_panicking g (g + 1) v0 v1 v2 _ _ _ w' hO hE).mono ?_
    rintro e u' w'' ⟨rfl, rfl, rfl⟩
    simp [Leaves, settle, results, Tryz.results9, go_sem, q0, q1, q2, q3, hR]
    exact hg ▸ HBW.out
  | some σ1 =>
    simp only at S1
    refine S1.out.mono ?_
    rintro e w5 ⟨rfl, N, vN, h5⟩
    have H5 := hidden h5
    have HT1 := hidden hT
    have HL1 := hidden (show σ1.last = pnt0 from timesN_last hT)
    clear h5 hT S1 H4
    obtain ⟨L, hL⟩ : ∃ L, w5.heap.size = L := ⟨_, rfl⟩
    have hb6 : Below w5.heap.size w5 (w5.alloc (.cells #[.int .i64 0, .int .i64 0, .int .u64 0] 62)) := (Below.refl _ _).alloc (Nat.le_refl _) _
    have hl6 := Whole1.new w5 62 #[.int .i64 0, .int .i64 0, .int .u64 0]
    obtain ⟨w6, hw6⟩ : ∃ w6, w5.alloc (.cells #[.int .i64 0, .int .i64 0, .int .u64 0] 62) = w6 := ⟨_, rfl⟩
    have hs6 : w6.heap.size = L + 1 := by rw [← hw6, World.size_alloc, hL]
    have hgL : g ≤ L := by rw [← hL]; exact H5.out.le
    rw [hw6] at hb6 hl6
    rw [hL] at hl6
    have H6 := hidden ((H5.out.on hb6).rebase (bP' := L + 1) (by omega))
    have HL6 := hidden (show LastAt w6 L σ1.last.ref σ1.last.t σ1.last.v by rw [HL1.out]; exact hl6)
    have HW6 := hidden hw6
    have HLe := hidden hL
    have v6 := H6.out.var.cell 0
    have v6' : (w5.alloc (.cells #[.int .i64 0, .int .i64 0, .int .u64 0] 62)).cell? ⟨g + 1 + 1 + 1, 0, none⟩ = some (.pointer (some ⟨g + 1 + 1, 0, none⟩)) := by rw [hw6]; exact v6
    have HOK1 := hidden (timesP_ok (fun _ _ => stepN_ok) (ps0_ok s) HT1.out)
    clear hw6 hL hs6 hb6 hl6 v6 HL1 H5
    go_wp2_with fail
    rw [HW6.out, HLe.out]
    clear HW6 HLe v6'
    have S2 := hidden (timesP_any w g g (g + 1) (g + 1 + 1) (g + 1 + 1 + 1) L s (JP w g g (g + 1) (g + 1 + 1 + 1) (g + 1 + 1) (L + 1) L s N [] vN (.slice none 0 0)) timP hs (fun σ w1 ho ⟨vP, h, k⟩ => (dec3_any w g g (g + 1) (g + 1 + 1 + 1) (g + 1 + 1) (L + 1) L s σ N [] vN vP _ w1 hs ho h k (Nat.lt_succ_self L) hgL).mono fun e w' k => by
      cases hst : stepP s σ with
      | none => rw [hst] at k; exact k
      | some τ => rw [hst] at k; exact k) σ1 w6 HOK1.out ⟨_, H6.out, HL6.out⟩)
    obtain ⟨T, hT⟩ : ∃ T, timesP s (stepP s) σ1 = T := ⟨_, rfl⟩
    rw [hT] at S2
    cases T with
    | none =>
      have hR : rightP s = none := by rw [rightP, decP, HT1.out, Option.bind_some, hT]; rfl
      clear hT H6 HL6 HOK1
      simp only at S2
      refine S2.out.mono ?_
      rintro e w' ⟨t, x, rfl, v0, v1, v2, hO, hE, hB⟩
      go_wp2_with fail
      have hW := wiped_is hO hE
      have q0 := hW.1.cell 0
      have q1 := hW.1.cell 1
      have q2 := hW.1.cell 2
      have q3 := hW.2.cell 0
      have HBW := hidden (wiped_below hB (Nat.le_refl g) (show g ≤ g + 1 by omega))
      refine leaves_cons (f := 26) (args := #[.pointer (some ⟨g, 0, none⟩), .pointer (some ⟨g + 1, 0, none⟩)]) (by simp) (by simp [go_sem]) ?_
      refine (catch_panicking g (g + 1) v0 v1 v2 _ _ _ w' hO hE).mono ?_
      rintro e u' w'' ⟨rfl, rfl, rfl⟩
      simp [Leaves, settle, results, Tryz.results9, go_sem, q0, q1, q2, q3, hR]
      exact hg ▸ HBW.out
    | some σ2 =>
      simp only at S2
      refine S2.out.mono ?_
      rintro e w7 ⟨rfl, vP, h7, k7⟩
      have H7 := hidden h7
      have HT2 := hidden hT
      have HOK2 := hidden (timesP_ok (fun _ _ => stepP_ok) HOK1.out hT)
      have v7 := h7.var.cell 0
      clear h7 k7 hT S2 H6 HL6 HOK1
      go_wp2_with fail
      clear v7
      have S3 := hidden (timesG_any w g g (g + 1) (g + 1 + 1) (g + 1 + 1 + 1) s (JG w g g (g + 1) (g + 1 + 1 + 1) (g + 1 + 1) (L + 1) s N vN vP) timG hs (fun σ w1 ho ⟨G, vG, h⟩ => (dec4_any w g g (g + 1) (g + 1 + 1 + 1) (g + 1 + 1) (L + 1) s σ N G vN vP vG w1 hs ho h).mono fun e w' k => by
        cases hst : stepG s σ with
        | none => rw [hst] at k; exact k
        | some τ => rw [hst] at k; exact k) σ2 w7 HOK2.out ⟨_, _, H7.out⟩)
      obtain ⟨T, hT⟩ : ∃ T, timesP s (stepG s) σ2 = T := ⟨_, rfl⟩
      rw [hT] at S3
      cases T with
      | none =>
        have hR : rightP s = none := by rw [rightP, decP, HT1.out, Option.bind_some, HT2.out, Option.bind_some, hT]; rfl
        clear hT H7 HOK2
        simp only at S3
        refine S3.out.mono ?_
        rintro e w' ⟨t, x, rfl, v0, v1, v2, hO, hE, hB⟩
        go_wp2_with fail
        have hW := wiped_is hO hE
        have q0 := hW.1.cell 0
        have q1 := hW.1.cell 1
        have q2 := hW.1.cell 2
        have q3 := hW.2.cell 0
        have HBW := hidden (wiped_below hB (Nat.le_refl g) (show g ≤ g + 1 by omega))
        refine leaves_cons (f := 26) (args := #[.pointer (some ⟨g, 0, none⟩), .pointer (some ⟨g + 1, 0, none⟩)]) (by simp) (by simp [go_sem]) ?_
        refine (catch_panicking g (g + 1) v0 v1 v2 _ _ _ w' hO hE).mono ?_
        rintro e u' w'' ⟨rfl, rfl, rfl⟩
        simp [Leaves, settle, results, Tryz.results9, go_sem, q0, q1, q2, q3, hR]
        exact hg ▸ HBW.out
      | some σ3 =>
        simp only at S3
        refine S3.out.mono ?_
        rintro e w8 ⟨rfl, G, vG, h8⟩
        have H8 := hidden h8
        have HDP := hidden (show decP s = some σ3 by rw [decP, HT1.out, Option.bind_some, HT2.out, Option.bind_some, hT])
        have HOK3 := hidden (timesP_ok (fun _ _ => stepG_ok) HOK2.out hT)
        clear h8 hT S3 H7 HOK2 HT1 HT2
        obtain ⟨r, rfl, rfl, rfl, hdr⟩ := H8.out.dr (by omega)
        have HDR := hidden hdr
        have HAT := hidden (hdr.At HOK3.out hs)
        obtain ⟨⟨nA, nn, nc, nl⟩, ⟨pA, pn, pc, pl⟩, ⟨gA, gn, gc, gl⟩⟩ := r
        have o0 : w8.cell? ⟨g, 0, none⟩ = some (.slice nA nn nc) := H8.out.out.cell 0
        have o1 : w8.cell? ⟨g, 1, none⟩ = some (.slice pA pn pc) := H8.out.out.cell 1
        have o2 : w8.cell? ⟨g, 2, none⟩ = some (.slice gA gn gc) := H8.out.out.cell 2
        have S4 := hidden (recEnc_any _ w8 HAT.out)
        clear hdr
        go_wp2_with fail
        refine S4.out.mono ?_
        rintro e w9 ⟨rfl, b9⟩
        have H9 := hidden (H8.out.on b9)
        have HDR9 := hidden (HDR.out.on b9)
        have c0 : w9.cell? ⟨g, 0, none⟩ = some (.slice nA nn nc) := H9.out.out.cell 0
        have c1 : w9.cell? ⟨g, 1, none⟩ = some (.slice pA pn pc) := H9.out.out.cell 1
        have c2 : w9.cell? ⟨g, 2, none⟩ = some (.slice gA gn gc) := H9.out.out.cell 2
        have f0 := H9.out.out.free 0
        have f1 := H9.out.out.free 1
        have f2 := H9.out.out.free 2
        have HB9 := hidden (H9.out.below)
        clear b9 S4 H8 HDR HAT o0 o1 o2
        obtain ⟨T, er, hE⟩ : ∃ T er, encRec ⟨⟨nA, nn, nc, nl⟩, ⟨pA, pn, pc, pl⟩, ⟨gA, gn, gc, gl⟩⟩ = (T, er) := ⟨_, _, rfl⟩
        rw [hE]
        simp only
        have HE := hidden hE
        clear hE
        have hSl : Hid (S.toList = s) := hidden (by rw [← HS.out]; simp)
        by_cases hq : T.toList = S.toList ∧ S.toList ≠ []
        · have hR : rightP s = some σ3 := by
            obtain ⟨hq1, hq2⟩ := hq
            rw [hSl.out] at hq1 hq2
            have hf : fitRec ⟨⟨nA, nn, nc, nl⟩, ⟨pA, pn, pc, pl⟩, ⟨gA, gn, gc, gl⟩⟩ := by
              refine Classical.byContradiction fun hf => ?_
              have := HE.out
              rw [encRec, if_neg hf] at this
              simp only [Prod.mk.injEq] at this
              rw [← this.1] at hq1
              exact hq2 (by rw [← hq1]; simp)
            have := HE.out
            rw [encRec, if_pos hf] at this
            simp only [Prod.mk.injEq] at this
            rw [← this.1] at hq1
            exact rightP_yes HDP.out (HDR9.out.tells.fit.1 hf) (by rw [← HDR9.out.tells.bits]; simpa using hq1)
          obtain ⟨hq1, hq2⟩ := hq
          have a1 : (T.toList == S.toList) = true := by rw [hq1]; exact beq_self_eq_true _
          have a2 : (S.toList).isEmpty = false := by cases h : S.toList with | nil => exact absurd h hq2 | cons x l => rfl
          have k3 := err3 H9.out.out H9.out.err (.slice nA nn nc) (.slice pA pn pc) (.slice gA gn gc)
          have HK3 := hidden k3
          have HD3 := hidden (((HDR9.out.off H9.out.out (by decide) (by decide) (by decide) (by decide) (by decide) 0 (.slice nA nn nc)).off (H9.out.out.put 0 _) (by decide) (by decide) (by decide) (by decide) (by decide) 1 (.slice pA pn pc)).off ((H9.out.out.put 0 _).put 1 _) (by decide) (by decide) (by decide) (by decide) (by decide) 2 (.slice gA gn gc))
          have g0 := k3.2.free 0
          have g1 := k3.2.cell 0
          clear hq1 hq2 k3
          go_wp2_with fail
          have hO10 := HK3.out.1.off (p := ⟨g + 1, 0, none⟩) (HK3.out.1.apart HK3.out.2 (by decide)) (.int .i64 0)
          have q0 := hO10.cell 0
          have q1 := hO10.cell 1
          have q2 := hO10.cell 2
          have q3 := (HK3.out.2.put 0 (.int .i64 0)).cell 0
          have HDZ := hidden (HD3.out.off HK3.out.2 (by decide) (by decide) (by decide) (by decide) (by decide) 0 (.int .i64 0))
          have HBZ := hidden ((((HB9.out.setCell (p := ⟨g, 0, none⟩) (Nat.le_refl g) (.slice nA nn nc)).setCell (p := ⟨g, 1, none⟩) (Nat.le_refl g) (.slice pA pn pc)).setCell (p := ⟨g, 2, none⟩) (Nat.le_refl g) (.slice gA gn gc)).setCell (p := ⟨g + 1, 0, none⟩) (by omega : g ≤ g + 1) (.int .i64 0))
          clear hO10 HK3 c0 c1 c2 f0 f1 f2 g0 g1
          refine leaves_cons (f := 26) (args := #[.pointer (some ⟨g, 0, none⟩), .pointer (some ⟨g + 1, 0, none⟩)]) (by simp) (by simp [go_sem]) ?_
          refine (catch_idle g (g + 1) _).mono ?_
          rintro e u' w'' ⟨rfl, rfl, rfl⟩
          simp [Leaves, settle, results, Tryz.results9, go_sem, q0, q1, q2, q3, hR]
          rw [hg]
          exact ⟨HBZ.out, _, HDZ.out, rfl⟩
        · have hR : rightP s = none := rightP_no HDP.out fun ⟨k1, k2⟩ => by
            have hf := HDR9.out.tells.fit.2 k1
            have hb := HDR9.out.tells.bits
            rw [k2] at hb
            have := HE.out
            rw [encRec, if_pos hf, hb] at this
            simp only [Prod.mk.injEq] at this
            refine hq ⟨by rw [← this.1, hSl.out]; simp, fun h => ?_⟩
            rw [hSl.out, ← k2] at h
            have := bitsP_pos σ3
            rw [h] at this
            cases this
          have k3 := err3 H9.out.out H9.out.err (.slice none 0 0) (.slice none 0 0) (.slice none 0 0)
          have HK3 := hidden k3
          have g0 := k3.2.free 0
          have g1 := k3.2.cell 0
          clear k3
          have a1 : (T.toList == S.toList) = false ∨ ((T.toList == S.toList) = true ∧ (S.toList).isEmpty = true) := by
            by_cases h1 : T.toList = S.toList
            · right
              refine ⟨by rw [h1]; exact beq_self_eq_true _, ?_⟩
              cases h : S.toList with
              | nil => rfl
              | cons x l => exact absurd ⟨h1, by rw [h]; simp⟩ hq
            · left; simpa using h1
          clear hq
          rcases a1 with a1 | ⟨a1, a2⟩
          · go_wp2_with fail
            have hO10 := HK3.out.1.off (p := ⟨g + 1, 0, none⟩) (HK3.out.1.apart HK3.out.2 (by decide)) (.int .i64 150)
            have q0 := hO10.cell 0
            have q1 := hO10.cell 1
            have q2 := hO10.cell 2
            have q3 := (HK3.out.2.put 0 (.int .i64 150)).cell 0
            have HBZ := hidden ((((HB9.out.setCell (p := ⟨g, 0, none⟩) (Nat.le_refl g) (.slice none 0 0)).setCell (p := ⟨g, 1, none⟩) (Nat.le_refl g) (.slice none 0 0)).setCell (p := ⟨g, 2, none⟩) (Nat.le_refl g) (.slice none 0 0)).setCell (p := ⟨g + 1, 0, none⟩) (by omega : g ≤ g + 1) (.int .i64 150))
            clear hO10 HK3 c0 c1 c2 f0 f1 f2 g0 g1
            refine leaves_cons (f := 26) (args := #[.pointer (some ⟨g, 0, none⟩), .pointer (some ⟨g + 1, 0, none⟩)]) (by simp) (by simp [go_sem]) ?_
            refine (catch_idle g (g + 1) _).mono ?_
            rintro e u' w'' ⟨rfl, rfl, rfl⟩
            simp [Leaves, settle, results, Tryz.results9, go_sem, q0, q1, q2, q3, hR]
            exact hg ▸ HBZ.out
          · go_wp2_with fail
            have hO10 := HK3.out.1.off (p := ⟨g + 1, 0, none⟩) (HK3.out.1.apart HK3.out.2 (by decide)) (.int .i64 150)
            have q0 := hO10.cell 0
            have q1 := hO10.cell 1
            have q2 := hO10.cell 2
            have q3 := (HK3.out.2.put 0 (.int .i64 150)).cell 0
            have HBZ := hidden ((((HB9.out.setCell (p := ⟨g, 0, none⟩) (Nat.le_refl g) (.slice none 0 0)).setCell (p := ⟨g, 1, none⟩) (Nat.le_refl g) (.slice none 0 0)).setCell (p := ⟨g, 2, none⟩) (Nat.le_refl g) (.slice none 0 0)).setCell (p := ⟨g + 1, 0, none⟩) (by omega : g ≤ g + 1) (.int .i64 150))
            clear hO10 HK3 c0 c1 c2 f0 f1 f2 g0 g1
            refine leaves_cons (f := 26) (args := #[.pointer (some ⟨g, 0, none⟩), .pointer (some ⟨g + 1, 0, none⟩)]) (by simp) (by simp [go_sem]) ?_
            refine (catch_idle g (g + 1) _).mono ?_
            rintro e u' w'' ⟨rfl, rfl, rfl⟩
            simp [Leaves, settle, results, Tryz.results9, go_sem, q0, q1, q2, q3, hR]
            exact hg ▸ HBZ.out
end Go.Proofs.YtdggnnjjiolldaaGreat
