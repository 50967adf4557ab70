/- The frame of a law that answers true and leaves its arguments as they were: what is left to show is the walk. No condition. -/
import Derived.Test.YtohocdbneopooaaBase
import Derived.ProofKit
import Derived.OpenShut
import Derived.SizedLaws
import Derived.JoinedCond
import Derived.Deep.CondSized
import Derived.Deep.Slices
import Derived.Deep.Fields
namespace Go.Proofs.Ytohocdbneopooaa
set_option maxRecDepth 100000
open Go.RowKit Go.WideShapes Go.ChangeShapes

/-- The row's last step where of the world behind the call it is known that below the heap's old size nothing has turned. -/
theorem post_below {H : Type} {enc : TypeId × Value → H} {P : Program} {f : Func} {s : ChangeSpec} {apart fresh handsOn again : Bool} {W W' : World} {args : Array Value} {v : Value} {ds gs : List (DataW H)} {before pa pv : List MemPlace}
    (hW : DataW.Whole enc P f.params.toList s.vars apart W args.toList ds gs before)
    (hres : ∀ (b : Nat) (sp : Nat → Bool) (hd : Bool), DataW.TrodAll enc P W' b sp hd f.resultTypes.toList (v.resultList f.resultTypes.size) (s.fn H (ds ++ gs)).results [])
    (hargs : ∀ sp : Nat → Bool, (∀ p ∈ before, sp p.block = true) → DataW.TrodAll enc P W' 0 sp true f.params.toList args.toList (s.fn H (ds ++ gs)).args pa)
    (hvars : ∀ sp : Nat → Bool, (∀ p ∈ before, sp p.block = true) → DataW.TrodVars enc P W' sp s.vars (s.fn H (ds ++ gs)).vars pv)
    (hps : before = pa ++ pv) (hb : Below W.heap.size W W')
    (hok : ∀ (j : Nat) (t : TypeId) (r : Value), f.resultTypes[j]? = some t → (v.resultList f.resultTypes.size)[j]? = some r → Value.okWide P W' .any 0 t r) :
    s.post enc P f apart fresh handsOn again W args v W' := by
  have hin : ∀ p ∈ before, p.block < W.heap.size := fun p hp => hW.lt p hp
  have hold : ∀ p ∈ before, (fun b => decide (b < W.heap.size)) p.block = true := fun p hp => decide_eq_true (hin p hp)
  obtain ⟨_, _, _, _, _, hz, hn⟩ := id hW
  refine ⟨ds, gs, before, [], pa, pv, hW, hres _ _ _, hargs _ hold, hvars _ hold, ?_, fun _ => ⟨hok, (s.fn H (ds ++ gs)).results ++ (s.fn H (ds ++ gs)).args, (s.fn H (ds ++ gs)).vars, ([] ++ pa) ++ pv, ?_, ?_⟩⟩
  · refine World.keptBut_mono (fun p hp => ⟨hp, Or.inr ?_⟩) (hb.frame (· ∈ before))
    rwa [hps, List.mem_append] at hp
  · refine ⟨[] ++ pa, pv, trodAll_append (hargs _ (fun _ _ => rfl)) (hres _ _ _), hvars _ (fun _ _ => rfl), rfl, fun b off hp => ?_, fun ha => ?_⟩
    · have hq : MemPlace.cell b off ∈ before := by rw [hps]; simpa using hp
      rw [hb.frozen (hin _ hq)]
      exact hz b off hq
    · have h2 := hn ha
      rw [hps] at h2
      simpa using h2
  · intro p hp _
    rw [hps]
    simpa using hp

section
variable {H : Type} {enc : TypeId × Value → H} {P : Program} {W W' : World}

/-- All arguments read behind the call as before. -/
theorem all_stay (hl : laidOutB P = true) {sp : Nat → Bool} : ∀ {ts : List TypeId} {vs : List Value} {ds : List (DataW H)} {ps : List MemPlace},
    (ts.all fun t => P.readableRec t && decide (t < P.types.size)) = true → DataW.TrodAll enc P W 0 (fun _ => true) true ts vs ds ps → Below W.heap.size W W' → (∀ p ∈ ps, p.block < W.heap.size) → (∀ p ∈ ps, sp p.block = true) →
    DataW.TrodAll enc P W' 0 sp true ts vs ds ps
  | [], vs, ds, ps, _, h, _, _, _ => by
    obtain ⟨rfl, rfl, rfl⟩ := trodAll_nil h
    exact trodAll_mk0
  | t :: ts, vs, ds, ps, hr, h, hb, hlt, hs => by
    obtain ⟨v, vs', d, ds', p, q, rfl, rfl, rfl, h0, r⟩ := trodAll_cons h
    simp only [List.all_cons, Bool.and_eq_true, decide_eq_true_eq] at hr
    refine trodAll_cons_mk (WideElems.Trod_stays hl hr.1.1 hr.1.2 h0 (fun x hx => hb.same (hlt x (by simp [hx]))) (fun x hx => hs x (by simp [hx]))) (all_stay hl ?_ r hb (fun x hx => hlt x (by simp [hx])) (fun x hx => hs x (by simp [hx])))
    simpa using hr.2

/-- The walk of a law, as the frame asks it. -/
def LawWalk (enc : TypeId × Value → H) (P : Program) (f : FuncId) (fn : Func) (cond : List (DataW H) → Prop) : Prop :=
  ∀ (W : World) (base : Nat) (args : Array Value) (ds : List (DataW H)) (p : List MemPlace),
    (∀ (j : Nat) t v, fn.params[j]? = some t → args[j]? = some v → Value.okWide P W .any base t v) →
    DataW.TrodAll enc P W 0 (fun _ => true) true fn.params.toList args.toList ds p → (∀ x ∈ p, x.block < W.heap.size) →
    (DataW.weightsEach P fn.params.toList ds).all (· ≤ reachBytes) = true → cond ds →
    Calls P f args W fun e W' => e = .returned (.bool true) ∧ Below W.heap.size W W'

/-- What a law's specification says. -/
def LawSpec (s : ChangeSpec) (n : Nat) : Prop := s.vars = [] ∧ ∀ (H : Type) (ds : List (DataW H)), ds.length = n → (s.fn H ds).results = [.lit (.bool true)] ∧ (s.fn H ds).args = ds ∧ (s.fn H ds).vars = []

theorem trodAll_len {sp : Nat → Bool} {b : Nat} {hd : Bool} : ∀ {ts : List TypeId} {vs : List Value} {ds : List (DataW H)} {ps : List MemPlace}, DataW.TrodAll enc P W b sp hd ts vs ds ps → ds.length = ts.length
  | [], _, _, _, h => by obtain ⟨rfl, rfl, rfl⟩ := trodAll_nil h; rfl
  | t :: ts, _, _, _, h => by
    obtain ⟨v, vs', d, ds', p, q, rfl, rfl, rfl, h0, r⟩ := trodAll_cons h
    simp [trodAll_len r]

theorem law_post {f : FuncId} {fn : Func} {s : ChangeSpec} {tb : TypeId} {cond : List (DataW H) → Prop}
    (hl : laidOutB P = true) (hread : (fn.params.toList.all fun t => P.readableRec t && decide (t < P.types.size)) = true)
    (hres : fn.resultTypes = #[tb]) (htb : P.underlying tb = some .bool) (hspec : LawSpec s fn.params.size) (walk : LawWalk enc P f fn cond)
    {base : Nat} {args : Array Value} {ds gs : List (DataW H)} {before : List MemPlace}
    (hval : ∀ (j : Nat) t v, fn.params[j]? = some t → args[j]? = some v → Value.okWide P W .any base t v)
    (hW : DataW.Whole enc P fn.params.toList s.vars false W args.toList ds gs before)
    (hsz : (DataW.weightsEach P (fn.params.toList ++ s.plain.varTypes P) (ds ++ gs)).all (· ≤ reachBytes) = true) (hc : cond (ds ++ gs)) :
    Calls P f args W fun e W' => ∃ v, e = .returned v ∧ s.post enc P fn false true false false W args v W' := by
  have hW0 := hW
  obtain ⟨p, q, hA, hV, rfl, hfz, hnd⟩ := hW
  obtain ⟨hv0, hs⟩ := hspec
  rw [hv0] at hV
  obtain ⟨rfl, rfl⟩ := trodVars_none hV
  have hvt : s.plain.varTypes P = [] := by simp [DataSpec.varTypes, ChangeSpec.plain, hv0]
  rw [hvt] at hsz
  simp only [List.append_nil] at hsz hc hW0
  have hlen := trodAll_len hA
  have hlt : ∀ x ∈ p, x.block < W.heap.size := fun x hx => by simpa using hW0.lt x hx
  obtain ⟨hs1, hs2, hs3⟩ := hs H ds (by simpa using hlen)
  refine (walk W base args ds p hval hA hlt hsz hc).mono fun e W' ⟨he, hb⟩ => ⟨_, he, ?_⟩
  refine post_below (pa := p) (pv := []) hW0 (fun b sp hd => ?_) (fun sp hsp => ?_) (fun sp hsp => ?_) (by simp) hb ?_
  · rw [hres, List.append_nil, hs1]
    exact trodAll_mk1 ⟨1, by simp [DataW.trod, Value.cells, htb]⟩
  · rw [List.append_nil, hs2]
    exact all_stay hl hread hA hb hlt hsp
  · rw [List.append_nil, hs3, hv0]; rfl
  · intro j t r hj hr
    rw [hres] at hj hr
    cases j with
    | zero =>
      simp only [List.getElem?_toArray, List.getElem?_cons_zero, Option.some.injEq] at hj
      have hr' : some (Value.bool true) = some r := hr
      injection hr' with hr'
      subst hj hr'
      simp [Value.okWide, htb, Cell.okWide, Cell.ok]
    | succ j => simp at hj

/-- THE FRAME of '..Said'. -/
theorem law_said {C : Checked} {os : Os} {f : FuncId} {fn : Func} {s : ChangeSpec} {tb : TypeId}
    (own : ownKnob C.prog.godebug = none) (started : os.Started) (noInit : C.prog.inits.idxOf? f = none) (hfn : C.prog.funcs[f]? = some fn)
    (witness : ∃ (w : World) (tape : Tape) (i : Input), w.os = os ∧ (w.forCall tape i).Shaped C.prog ∧ i.vars = [] ∧ Input.okWide C.prog (w.forCall tape i) .any w.heap.size f i ∧
      s.pre6 enc C.prog fn [] false (w.forCall tape i).memory i.args ∧ ({} : Assume).holds C.prog (lone (Frame.enter C.prog f i.args .normal) [] (w.forCall tape i)))
    (hl : laidOutB C.prog = true) (hread : (fn.params.toList.all fun t => C.prog.readableRec t && decide (t < C.prog.types.size)) = true)
    (hres : fn.resultTypes = #[tb]) (htb : C.prog.underlying tb = some .bool) (hspec : LawSpec s fn.params.size) (walk : LawWalk enc C.prog f fn fun _ => True) :
    ReturnsInHanded {} C os f .any (s.pre6 enc C.prog fn [] false) (s.post enc C.prog fn false true false false) := by
  refine returnsInHanded_of_change_sized own started noInit hfn witness ?_
  intro W base args ds gs before hval hW _ hsz _
  exact law_post hl hread hres htb hspec walk hval hW hsz trivial

/-- THE FRAME of '..UptoSaid'. -/
theorem law_upto {C : Checked} {os : Os} {f : FuncId} {fn : Func} {s : ChangeSpec} {tb : TypeId} {F : Stop.Interp}
    (own : ownKnob C.prog.godebug = none) (started : os.Started) (noInit : C.prog.inits.idxOf? f = none) (hfn : C.prog.funcs[f]? = some fn)
    (witness : ∃ (w : World) (tape : Tape) (i : Input), w.os = os ∧ (w.forCall tape i).Shaped C.prog ∧ i.vars = [] ∧ Input.okWide C.prog (w.forCall tape i) .any w.heap.size f i ∧
      (Rows.OpenSpec.upto s).pre6 enc C.prog fn [] false (w.forCall tape i).memory i.args ∧ ({} : Assume).holds C.prog (lone (Frame.enter C.prog f i.args .normal) [] (w.forCall tape i)))
    (hl : laidOutB C.prog = true) (hread : (fn.params.toList.all fun t => C.prog.readableRec t && decide (t < C.prog.types.size)) = true)
    (hres : fn.resultTypes = #[tb]) (htb : C.prog.underlying tb = some .bool) (hspec : LawSpec s fn.params.size) (walk : LawWalk enc C.prog f fn fun ds => Rows.uptoBulkAll ds ≤ 1048576) :
    ReturnsInHanded {} C os f .any ((Rows.OpenSpec.upto s).pre6 enc C.prog fn [] false) (((Rows.OpenSpec.upto s).at F).post enc C.prog fn false true false false) := by
  refine returnsInHanded_of_cond_sized (s := Rows.OpenSpec.upto s) (k := Rows.uptoSmall) rfl own started noInit hfn witness ?_
  intro W base args ds gs before hval hW _ hk hsz _
  exact law_post hl hread hres htb hspec walk hval hW hsz (of_decide_eq_true hk)
end

/-! A slice of structs of integers that came in. -/
section
variable {H : Type} {enc : TypeId × Value → H} {P : Program} {W : World}

/-- the cells of one element -/
def intRow (ks : List IntKind) (r : List Int) : List Value := List.zipWith Value.int ks r

theorem open_flat {t e : TypeId} {fs : Array Field} (ks : List IntKind) {v : Value} {d : DataW H} {ps : List MemPlace} {base : Nat} (ht : P.underlying t = some (.slice e)) (he : P.underlying e = some (.struct fs)) (hone : Deep.oneCellFields P fs = true) (hC : P.cellsOf e = fs.size)
    (hks : fs.toList.map (fun f => P.underlying f.type) = ks.map fun k => some (TypeDesc.int k)) (hpos : 0 < fs.size)
    (hv : Value.okWide P W .any base t v) (h : DataW.Trod enc P W 0 (fun _ => true) true t v d ps) (hlt : ∀ x ∈ ps, x.block < W.heap.size) :
    ∃ (A : Option Addr) (n c : Nat) (L : List (List Int)), v = .slice A n c ∧ n ≤ c ∧ L.length = n ∧ Row W W.heap.size ks.length A n (L.flatMap (intRow ks)) ∧
      (∀ r ∈ L, r.length = ks.length ∧ ∀ (j : Nat) (k : IntKind) (x : Int), ks[j]? = some k → r[j]? = some x → (Lit.int k x).wf = true) ∧ ((n = 0 ∧ d = .nil) ∨ ∃ es sp : List (DataW H), d = .slice es sp ∧ es.length = n) := by
  have hkl : ks.length = fs.size := by
    have := congrArg List.length hks
    simpa using this.symm
  obtain ⟨A, n, c, rfl⟩ := okWide_slice ht hv
  obtain ⟨fuel, hf⟩ := h
  rcases Deep.open_slice ht hf with ⟨hcs, hx⟩ | ⟨a, len, cap, m, n', D, Pl, hcs, _, hl, hm, hmm, hx, hi⟩
  · simp only [Value.cells, List.cons.injEq, Value.slice.injEq, and_true] at hcs
    obtain ⟨rfl, rfl, rfl⟩ := hcs
    refine ⟨none, 0, 0, [], rfl, Nat.le_refl _, rfl, Row.nil, by simp, .inl ⟨rfl, ?_⟩⟩
    simp only [Prod.mk.injEq] at hx
    exact hx.1
  · simp only [Value.cells, List.cons.injEq, Value.slice.injEq, and_true] at hcs
    obtain ⟨rfl, rfl, rfl⟩ := hcs
    simp only [if_true] at hmm
    subst hmm
    simp only [Prod.mk.injEq] at hx
    have hel : ∀ i, i < n → ∃ r : List Int, (r.length = ks.length ∧ ∀ (j : Nat) (k : IntKind) (x : Int), ks[j]? = some k → r[j]? = some x → (Lit.int k x).wf = true) ∧ ∀ j, j < ks.length → W.cell? (a.add (i * ks.length + j)) = (intRow ks r)[j]? := by
      intro i hin
      obtain ⟨cs', hc, ht'⟩ := hi i (by omega)
      rw [hC] at hc
      obtain ⟨ys, n'', hn', hy, hlen, hyl, hfl⟩ := DataW.trod_struct he ht'
      obtain ⟨_, hcl, hat⟩ := World.cells?_some hc
      have hcell : ∀ j, j < ks.length → ∃ x : Int, ∃ k, ks[j]? = some k ∧ cs'[j]? = some (.int k x) ∧ (Lit.int k x).wf = true := by
        intro j hj
        have hjf : j < fs.size := by omega
        have hfj : fs[j]? = some fs[j] := Array.getElem?_eq_getElem hjf
        obtain ⟨ho, hk1⟩ := Deep.hone_of hone j _ hfj
        have h1 := hfl j _ hfj
        rw [ho, hk1] at h1
        have hcj : cs'[j]? = some (cs'[j]'(by omega)) := List.getElem?_eq_getElem (by omega)
        have hone' : (cs'.drop j).take 1 = [cs'[j]'(by omega)] := by
          rw [List.drop_eq_getElem_cons (by omega)]; rfl
        rw [hone'] at h1
        have hu : P.underlying fs[j].type = some (.int ks[j]) := by
          have := congrArg (fun l => l[j]?) hks
          simp [hjf, hj] at this
          exact this
        have hys : ys[j]? = some (ys[j]'(by omega)) := List.getElem?_eq_getElem (by omega)
        rw [hys] at h1
        obtain ⟨x, hx1, _, hw⟩ := DataW.trod_int hu h1
        simp only [List.cons.injEq, and_true] at hx1
        exact ⟨x, ks[j], List.getElem?_eq_getElem hj, by rw [hcj, hx1], hw⟩
      obtain ⟨X, hX⟩ := Deep.choose_lt (α := Int) (n := ks.length) (p := fun j x => ∃ k, ks[j]? = some k ∧ cs'[j]? = some (.int k x) ∧ (Lit.int k x).wf = true) hcell
      refine ⟨(List.range ks.length).map X, ⟨by simp, fun j k x hk hx => ?_⟩, fun j hj => ?_⟩
      · have hj : j < ks.length := (List.getElem?_eq_some_iff.1 hk).1
        obtain ⟨k', hk', _, hw⟩ := hX j hj
        rw [hk] at hk'
        injection hk' with hk'
        subst hk'
        simp [hj] at hx
        rw [← hx]; exact hw
      · obtain ⟨k', hk', hc', _⟩ := hX j hj
        have hj' : j < ks.length := hj
        have := hat j (by omega)
        rw [hc'] at this
        rw [show i * ks.length + j = i * fs.size + j from by rw [hkl], ← Deep.add_add, this]
        have hkj : ks[j] = k' := by
          rw [List.getElem?_eq_getElem hj'] at hk'
          injection hk'
        simp [intRow, hj', hkj]
    obtain ⟨R, hR⟩ := Deep.choose_lt (α := List Int) hel
    have hflat : ∀ (m : Nat), m ≤ n → (((List.range m).map R).flatMap (intRow ks)).length = m * ks.length ∧ ∀ j, j < m * ks.length → W.cell? (a.add j) = (((List.range m).map R).flatMap (intRow ks))[j]? := by
      intro m
      induction m with
      | zero => intro _; exact ⟨by simp, fun j hj => by simp at hj⟩
      | succ m ih =>
        intro hm'
        obtain ⟨i1, i2⟩ := ih (by omega)
        obtain ⟨⟨hr1, _⟩, hr2⟩ := hR m (by omega)
        have hlen1 : (intRow ks (R m)).length = ks.length := by simp [intRow, hr1]
        rw [List.range_succ, List.map_append, List.flatMap_append, List.map_cons, List.map_nil, List.flatMap_cons, List.flatMap_nil, List.append_nil]
        refine ⟨by rw [List.length_append, i1, hlen1, Nat.succ_mul], fun j hj => ?_⟩
        rw [Nat.succ_mul] at hj
        rcases Nat.lt_or_ge j (m * ks.length) with h1 | h1
        · rw [List.getElem?_append_left (by omega)]; exact i2 j h1
        · rw [List.getElem?_append_right (by omega), i1, ← hr2 _ (by omega), show m * ks.length + (j - m * ks.length) = j from by omega]
    obtain ⟨h1, h2⟩ := hflat n (Nat.le_refl _)
    refine ⟨_, n, _, (List.range n).map R, rfl, by omega, by simp, ⟨h1, fun hn => ?_⟩, ?_, .inr ⟨_, _, hx.1, by simp⟩⟩
    · obtain ⟨b, off, spot⟩ := a
      have hpk : 0 < n * ks.length := Nat.mul_pos hn (by omega)
      have hc0 := h2 0 hpk
      have hsp : spot = none := by
        rw [List.getElem?_eq_getElem (by rw [h1]; exact hpk)] at hc0
        simpa [Addr.add] using World.cell?_spot hc0
      subst hsp
      refine ⟨b, off, rfl, ?_, fun j hj => by rw [← h2 j hj, Addr.add_lit]⟩
      refine hlt (.cell b off) ?_
      rw [hx.2]
      refine List.mem_append_left _ (MemPlace.mem_row.2 ⟨0, ?_, by simp⟩)
      rw [hC]
      exact Nat.mul_pos (by omega) hpos
    · intro r hr
      simp only [List.mem_map, List.mem_range] at hr
      obtain ⟨i, hi', rfl⟩ := hr
      exact (hR i hi').1

end
end Go.Proofs.Ytohocdbneopooaa
