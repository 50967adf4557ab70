/- The document's reader of patterns: put, next, fail. Condition: the tree is one. A set of bytes, bit by bit. No program is walked here. -/
import Derived.Test.YthncochjhbmceaaGreatPk584e6475
import Derived.Test.YthncochjhbmceaaGreatPk785f11a4
import Derived.Test.YthncochjhbmceaaGreatPk408bb471
import Derived.Shelf.RegionOpenPlain
import Derived.Test.YthncochjhbmceaaGreatPkcf5fb110
namespace Go.Proofs.YthncochjhbmceaaGreat
set_option maxRecDepth 100000
open Go.RowKit

theorem nodeAgg (w : World) : (isAgg 286).run Tryz.prog w = .ok true w := Tryz.isAgg286 w
theorem nodeSize (w : World) : (Go.sizeOf 286).run Tryz.prog w = .ok 259 w := Tryz.sizeOf286 w
theorem infoNd : (Tryz.prog.info? 286).map (fun i => (i.zero.map (fun z => z.cells.size), i.size, i.bytes)) = some (some 259, 259, 280) := by kernel_rfl
/-- the tree under way, its nodes' row: how many nodes, where, how deep, what failed -/
structure TrV (w : World) (base T : Nat) (nv : Value) (s : ByteArray) (n i d f : Nat) : Prop where
  blk : Whole1 w T 282 #[nv, .string s, .int .i64 (i : Int), .int .i64 (d : Int), .int .i64 (f : Int)]
  own : ∃ xs, w.ownsRow base 286 259 nv n xs
  tb : base ≤ T
  bs : base ≤ w.heap.size
section
variable {w w' : World} {base T n i d f : Nat} {nv : Value} {s : ByteArray} {ts : List TypeId} {mp : Bool} {b : Nat}
theorem TrV.turn (h : TrV w base T nv s n i d f) (k : Turn b ts mp w w') (h1 : 282 ∉ ts) (h2 : 286 ∉ ts) : TrV w' base T nv s n i d f := by
  obtain ⟨xs, ho⟩ := h.own
  exact ⟨k.whole h.blk (.inr h1), ⟨xs, k.own ho (.inl h2)⟩, h.tb, Nat.le_trans h.bs k.size⟩
theorem TrV.on (h : TrV w base T nv s n i d f) (k : Below w.heap.size w w') : TrV w' base T nv s n i d f := h.turn (Turn.of_below k 0 [] false) (by simp) (by simp)
theorem TrV.drewN (h : TrV w base T nv s n i d f) (m : Nat) : TrV (w.drewN m) base T nv s n i d f := h.on (below_drewN (Below.refl _ _) m)
/-- a block of a node of one's own was turned -/
theorem TrV.grown {X : Nat} (h : TrV w base T nv s n i d f) (k : w.grownBy w' (some X)) (h1 : X ≠ T) (h2 : nv.ownBlock ≠ some X) : TrV w' base T nv s n i d f := by
  obtain ⟨xs, ho⟩ := h.own
  refine ⟨(k.block T h.blk.lt (by simpa using Ne.symm h1)).trans h.blk, ⟨xs, ho.kept k ?_⟩, h.tb, Nat.le_trans h.bs k.size⟩
  cases hv : nv.ownBlock with
  | none => exact .inl rfl
  | some g => exact .inr fun e => h2 (by rw [hv, e])
end
/-- what a call of the reader may turn -/
abbrev TB (base : Nat) (w w' : World) : Prop := Turn base [282] false w w'
/-- what a call of the reader that lays nodes may turn -/
abbrev TT (base : Nat) (w w' : World) : Prop := Turn base [282, 286] false w w'
/-- the next byte, or -1 -/
def nextB (s : ByteArray) (i f : Nat) : Int := if f ≠ 0 ∨ s.size ≤ i then -1 else ((s.data.toList[i]?.getD 0).toNat : Nat)
set_option maxHeartbeats 1600000 in
theorem rnext_any (base T : Nat) (nv : Value) (s : ByteArray) (n i d f : Nat) (w : World) (h : TrV w base T nv s n i d f) (_ : s.size ≤ 64) (hi : i ≤ 1000) (hf : f ≤ 1000) :
    Calls Tryz.prog 179 #[.pointer (some ⟨T, 0, none⟩)] w fun e w' => e = .returned (.int .i64 (nextB s i f)) ∧ ∃ q, w' = w.drewN q := by
  have c1 := h.blk.cell 1
  have c2 := h.blk.cell 2
  have c4 := h.blk.cell 4
  clear h
  by_cases h0 : f = 0
  · subst h0
    by_cases h1 : i < s.size
    · have hn : nextB s i 0 = ((s.data.toList[i]?.getD 0).toNat : Nat) := by rw [nextB, if_neg (by omega)]
      rw [hn]
      go_enter Tryz.func179, Tryz.ntmps179
      go_wp2_with fail
      have i0 : (0 : Int) ≤ (i : Int) := by omega
      have i1 : (i : Int) < (s.size : Int) := by omega
      have i2 : decide (s.size ≤ i) = false := decide_eq_false (by omega)
      go_quiet (fail)
      go_wp2_with fail
      obtain ⟨m1, hm1⟩ : ∃ m1, nq = m1 := ⟨_, rfl⟩
      have HM := hidden hm1
      rw [hm1]
      clear hm1
      obtain ⟨w2, hw2⟩ : ∃ w2, w.drewN m1 = w2 := ⟨_, rfl⟩
      have d1 : w2.cell? ⟨T, 1, none⟩ = some (.string s) := by rw [← hw2]; exact c1
      have d2 : w2.cell? ⟨T, 2, none⟩ = some (.int .i64 (i : Int)) := by rw [← hw2]; exact c2
      have HW := hidden hw2
      rw [hw2]
      clear hw2 c1 c2 c4
      go_quiet (fail)
      go_wp2_with fail
      go_ret
      refine ⟨ret_int ?_, m1 + nq, by rw [← HW.out, World.drewN_drewN]⟩
      have h2 : s.data.toList[i]?.getD 0 = s[i] := by
        rw [List.getElem?_eq_getElem (show i < s.data.toList.length from h1)]
        rfl
      rw [h2]
      have := UInt8.toNat_lt (s[i])
      unfold wrap64
      omega
    · have hn : nextB s i 0 = -1 := by rw [nextB, if_pos (by omega)]
      rw [hn]
      have i2 : decide (s.size ≤ i) = true := decide_eq_true (by omega)
      go_enter Tryz.func179, Tryz.ntmps179
      go_wp2_with fail
      go_quiet (fail)
      go_wp2_with fail
      go_ret
      exact ⟨rfl, nq, rfl⟩
  · have hn : nextB s i f = -1 := by rw [nextB, if_pos (by omega)]
    rw [hn]
    have f0 : ((f : Int) != 0) = true := by simpa using h0
    have f1 : (f != 0) = true := by simpa using h0
    go_enter Tryz.func179, Tryz.ntmps179
    go_wp2_with fail
    go_quiet (fail)
    go_wp2_with fail
    go_ret
    exact ⟨rfl, nq, rfl⟩
/-- a program that bears put, and is silent on a node's size -/
structure PutP (P : Program) (N : Nat) : Prop where
  mixed : P.follows .mixedOrders = true
  fn : P.funcs[148]? = some Tryz.f148
  t3 : P.underlying 3 = some (TypeDesc.int IntKind.i64)
  a3 : ∀ w, (isAgg 3).run P w = .ok false w
  z3 : ∀ w, (Go.sizeOf 3).run P w = .ok 1 w
  ts : P.underlying 280 = some (TypeDesc.slice 286)
  as_ : ∀ w, (isAgg 280).run P w = .ok false w
  zs : ∀ w, (Go.sizeOf 280).run P w = .ok 1 w
  tp : P.underlying 231 = Tryz.prog.underlying 231
  ap : ∀ w, (isAgg 231).run P w = .ok false w
  zp : ∀ w, (Go.sizeOf 231).run P w = .ok 1 w
  tt : P.underlying 282 = Tryz.prog.underlying 282
  nd : P.info? 286 = Tryz.prog.info? 286
  aN : ∀ w, (isAgg 286).run P w = .ok true w
  zN : ∀ w, (Go.sizeOf 286).run P w = .ok N w
  vN : ∃ zc, zc.size = N ∧ ∀ w, (zeroValue 286).run P w = .ok (.agg zc) w
theorem putP : PutP Tryz.prog 259 where
  mixed := by kernel_rfl
  fn := Tryz.func148
  t3 := by kernel_rfl
  a3 := fun w => by kernel_rfl
  z3 := fun w => by kernel_rfl
  ts := by kernel_rfl
  as_ := fun w => by kernel_rfl
  zs := fun w => by kernel_rfl
  tp := rfl
  ap := fun w => by kernel_rfl
  zp := fun w => by kernel_rfl
  tt := rfl
  nd := rfl
  aN := nodeAgg
  zN := nodeSize
  vN := ⟨Tryz.zeroCells286, by kernel_rfl, Tryz.zeroValue286⟩
set_option maxHeartbeats 1600000 in
theorem rput_P {P : Program} {N : Nat} (L : PutP P N) (base T : Nat) (nv : Value) (s : ByteArray) (n i d f : Nat) (cs : Array Value) (hN : N = 259) (hcs : cs.size = N) (hone : ∀ u ∈ cs.toList, u.oneCell' = true) (w : World) (h : TrV w base T nv s n i d f) (hn : n ≤ 1000000) :
    Calls P 148 #[.pointer (some ⟨T, 0, none⟩), .agg cs] w fun e w' => e = .returned (.int .i64 (n : Int)) ∧ (∃ nv', TrV w' base T nv' s (n + 1) i d f) ∧ TT base w w' := by
  obtain ⟨xs, ho⟩ := h.own
  have hw := h.blk
  obtain ⟨A, c, rfl, _, _⟩ := own_shape ho
  obtain ⟨iz, hiz⟩ : ∃ iz, P.info? 286 = some iz := by
    rw [L.nd]
    have := infoNd
    cases hi : Tryz.prog.info? 286 with
    | none => rw [hi] at this; cases this
    | some iz => exact ⟨iz, rfl⟩
  have hinf := infoNd
  rw [← L.nd, hiz] at hinf
  simp only [Option.map_some, Option.some.injEq, Prod.mk.injEq] at hinf
  obtain ⟨hz, hsz, hby⟩ := hinf
  obtain ⟨z, hz1, hz2⟩ := Option.map_eq_some_iff.1 hz
  obtain ⟨w1, hw1⟩ : ∃ w1, w.alloc (.cells cs 286) = w1 := ⟨_, rfl⟩
  obtain ⟨X, hX⟩ : ∃ X, w.heap.size = X := ⟨_, rfl⟩
  have hx : Whole1 w1 X 286 cs := by rw [← hX, ← hw1]; exact Whole1.new w _ _
  have hb1 : Below w.heap.size w w1 := hw1 ▸ (Below.refl _ _).alloc (Nat.le_refl _) _
  have hw1' := hw.below hb1 hw.lt
  have ho1 := own_below ho hb1 (Nat.le_refl _)
  have hl : (loadCellsFrom ⟨X, 0, none⟩ 0 N #[]).run P w1.drew = .ok cs w1.drew := by
    have := run_loadCells_whole (P := P) (w := w1.drew) hx
    rw [hcs] at this
    exact this
  have aN := L.aN; have zN := L.zN
  obtain ⟨zc, hzc, vN⟩ := L.vN
  have hb1' : ¬ 16777216 < N := by omega
  have hn0 : ¬ N = 0 := by omega
  have hfold : Array.foldl (fun cs x => cs.setIfInBounds x.snd x.fst) (Array.map (fun x => zc[x % N]!) (Array.range N)) cs.zipIdx 0 N = cs := by
    have := fold_all (Array.map (fun x => zc[x % N]!) (Array.range N)) cs (by simp [hcs])
    rw [hcs] at this
    exact this
  have HN := hidden hN
  clear hN
  have d0 : w1.drew.cell? ⟨T, 0, none⟩ = some (.slice A n c) := hw1'.cell 0
  have HB1 := hidden hb1
  have HBS := hidden h.bs
  have HTB := hidden h.tb
  have HX := hidden hx
  have HW1 := hidden hw1'
  have HO1 := hidden ho1
  have mixed := L.mixed; have t3 := L.t3; have a3 := L.a3; have z3 := L.z3; have ts := L.ts; have as_ := L.as_; have zs := L.zs; have ap := L.ap; have zp := L.zp
  have tp : P.underlying 231 = _ := L.tp.trans Tryz.underlying231
  have tt : P.underlying 282 = _ := L.tt.trans Tryz.underlying282
  have us := run_underlying L.ts
  have ut := run_underlying tt
  have HXE := hidden hX
  have HWE := hidden hw1
  clear hx hb1 hw1' ho1 h hw ho hz hX hw1
  go_enter L.fn, Tryz.ntmps148
  go_wp2_with fail
  rw [HXE.out, HWE.out]
  have hownN : ((w1.alloc (.cells cs 286)).drew).ownsRow base 286 N (.slice A n c) n xs := by
    rw [HN.out]
    exact own_drewN (HO1.out.alloc _) 1
  have hgr : ∀ {v : Value} {w10 : World}, w10.ownsRow base 286 N v (n + 1) (xs ++ cs.toList) → ((w1.alloc (.cells cs 286)).drew).grownBy w10 (Value.slice A n c).ownBlock → Whole1 w10 T 282 #[.slice A n c, .string s, .int .i64 (i : Int), .int .i64 (d : Int), .int .i64 (f : Int)] ∧ Turn base [286] false w1 w10 := fun {v w10} _ hg => by
    have t1 : Turn base [286] false w1 ((w1.alloc (.cells cs 286)).drew) := ((Turn.refl _ _ _ _).alloc _).drew
    have t2 : Turn base [286] false ((w1.alloc (.cells cs 286)).drew) w10 := Turn.of_own hownN (Nat.le_refl _) (by simp) hg
    exact ⟨(t1.trans t2).whole HW1.out (.inr (by decide)), t1.trans t2⟩
  have HGR := hidden (fun v w10 => @hgr v w10)
  clear hgr
  have T0 := fun (ops : Array Oper) (o : Oper) (a : Act) (K : Act → World → Prop) (Q : Exit → Act → World → Prop) (E : Prop) (hg : o.guard = none) (s1 s2 : Operand) (ho : o.op = .call { callee := .builtin .append, args := #[s1, s2], argTypes := #[280, 280] }) (hs : a.eval s1 = .slice A n c) (hx : a.eval s2 = .slice (some ⟨w1.heap.size, 0, none⟩) 1 1) hh =>
    step_appA (P := P) (ops := ops) (o := o) (a := a) (K := K) (Q := Q) (E := E) ((w1.alloc (.cells cs 286)).drew) hg s1 s2 280 ho base 286 iz z N 280 L.ts hiz hz1 (by rw [HN.out]; exact hsz) hby (by rw [HN.out]; exact hz2) (by have := HN.out; omega) (.slice A n c) n xs hs hownN (w1.heap.size + 1) (some ⟨w1.heap.size, 0, none⟩) 1 1 cs.toList hx (by have := (Row.fresh w1 286 N 1 cs.toList (by rw [Array.length_toList, hcs, Nat.one_mul])).drewN 1; rw [Array.toArray_toList] at this; exact this) hone (by unfold maxLen; omega) (by omega) (by have := HB1.out.size; have := HBS.out; simp; omega) hh
  have d0' : ((w1.alloc (.cells cs 286)).drew).cell? ⟨T, 0, none⟩ = some (.slice A n c) := (HW1.out.alloc _).cell 0
  go_region_law_o (refine T0 _ _ _ _ _ _ rfl _ _ rfl rfl rfl ?_; intro v10 w10 hown10 hg10 hat10; obtain ⟨A10, c10, rfl, hc10, _⟩ := own_shape hown10; obtain ⟨hp10, ht10⟩ := HGR.out _ _ hown10 hg10; have r0 := hp10.cell 0; have f0 := hp10.free 0; have HP10 := hidden hp10; have HT10 := hidden ht10; have HO10 := hidden hown10; clear hp10 ht10 hown10 hg10 hat10)
  all_goals
    have HPF := hidden (HP10.out.put 0 (.slice A10 (n + 1) c10))
    have TF : Turn base [282] false w10 (w10.setCell ⟨T, 0, none⟩ (.slice A10 (n + 1) c10)) := Turn.put HP10.out HTB.out (by simp) 0 _
    have HOF := hidden (TF.own HO10.out (.inl (by decide)))
    have HTF := hidden (show TT base w (w10.setCell ⟨T, 0, none⟩ (.slice A10 (n + 1) c10)) from ((Turn.of_below HB1.out _ _ _).trans (HT10.out.wider (Nat.le_refl _) (by simp) (by simp))).trans (TF.wider (Nat.le_refl _) (by simp) (by simp)))
    have q0 := HPF.out.cell 0
    generalize w10.setCell ⟨T, 0, none⟩ (.slice A10 (n + 1) c10) = wf at *
    clear TF r0 f0
    go_wp2_with fail
    go_ret
    exact ⟨rfl, ⟨_, HPF.out, ⟨xs ++ cs.toList, by have := HOF.out; rw [HN.out] at this; exact this⟩, HTB.out, Nat.le_trans HBS.out HTF.out.size⟩, HTF.out⟩
theorem rput_any (base T : Nat) (nv : Value) (s : ByteArray) (n i d f : Nat) (cs : Array Value) (hcs : cs.size = 259) (hone : ∀ u ∈ cs.toList, u.oneCell' = true) (w : World) (h : TrV w base T nv s n i d f) (hn : n ≤ 1000000) :
    Calls Tryz.prog 148 #[.pointer (some ⟨T, 0, none⟩), .agg cs] w fun e w' => e = .returned (.int .i64 (n : Int)) ∧ (∃ nv', TrV w' base T nv' s (n + 1) i d f) ∧ TT base w w' :=
  rput_P putP base T nv s n i d f cs rfl hcs hone w h hn
/-- one field of the tree was stored -/
theorem TrV.store {w : World} {base T n i d f : Nat} {nv : Value} {s : ByteArray} (h : TrV w base T nv s n i d f) (k : Nat) (u : Value) (i' d' f' : Nat)
    (hk : (k = 2 ∧ u = .int .i64 (i' : Int) ∧ d' = d ∧ f' = f) ∨ (k = 3 ∧ u = .int .i64 (d' : Int) ∧ i' = i ∧ f' = f) ∨ (k = 4 ∧ u = .int .i64 (f' : Int) ∧ i' = i ∧ d' = d)) :
    TrV (w.setCell ⟨T, k, none⟩ u) base T nv s n i' d' f' ∧ TB base w (w.setCell ⟨T, k, none⟩ u) := by
  obtain ⟨xs, ho⟩ := h.own
  have hT : TB base w (w.setCell ⟨T, k, none⟩ u) := Turn.put h.blk h.tb (by simp) k u
  have hp := h.blk.put k u
  refine ⟨⟨?_, ⟨xs, hT.own ho (.inl (by decide))⟩, h.tb, Nat.le_trans h.bs hT.size⟩, hT⟩
  rcases hk with ⟨rfl, rfl, rfl, rfl⟩ | ⟨rfl, rfl, rfl, rfl⟩ | ⟨rfl, rfl, rfl, rfl⟩ <;> exact hp
theorem TrV.c {w : World} {base T n i d f : Nat} {nv : Value} {s : ByteArray} (h : TrV w base T nv s n i d f) : w.cell? ⟨T, 1, none⟩ = some (.string s) ∧ w.cell? ⟨T, 2, none⟩ = some (.int .i64 (i : Int)) ∧ w.cell? ⟨T, 3, none⟩ = some (.int .i64 (d : Int)) ∧ w.cell? ⟨T, 4, none⟩ = some (.int .i64 (f : Int)) ∧ (∀ k, w.frozen? ⟨T, k, none⟩ = false) :=
  ⟨h.blk.cell 1, h.blk.cell 2, h.blk.cell 3, h.blk.cell 4, h.blk.free⟩
/-- the first failure is kept -/
def failN (f e : Nat) : Nat := if f = 0 then e else f
theorem rfail_any (base T : Nat) (nv : Value) (s : ByteArray) (n i d f e : Nat) (w : World) (h : TrV w base T nv s n i d f) :
    Calls Tryz.prog 198 #[.pointer (some ⟨T, 0, none⟩), .int .i64 (e : Int)] w fun x w' => x = .returned (.tuple #[]) ∧ TrV w' base T nv s n i d (failN f e) ∧ TB base w w' := by
  obtain ⟨c1, c2, c3, c4, fr⟩ := h.c
  have f4 := fr 4
  have H := hidden h
  by_cases h0 : f = 0
  · have HS := hidden (h.store 4 (.int .i64 (e : Int)) i d e (.inr (.inr ⟨rfl, rfl, rfl, rfl⟩)))
    have hF : Hid (failN f e = e) := if_pos h0
    subst h0
    clear h fr c1 c2 c3
    go_enter Tryz.func198, Tryz.ntmps198
    go_wp2_with fail
    go_end0
    refine ⟨rfl, ?_⟩
    rw [hF.out]
    exact HS.out
  · have hF : Hid (failN f e = f) := if_neg h0
    have f0 : ((f : Int) == 0) = false := by simpa using h0
    have f1 : (f == 0) = false := by simpa using h0
    clear h fr c1 c2 c3
    go_enter Tryz.func198, Tryz.ntmps198
    go_wp2_with fail
    go_end0
    refine ⟨rfl, ?_⟩
    rw [hF.out]
    exact ⟨H.out, Turn.refl _ _ _ _⟩
/-- what a letter gives: the state behind it -/
theorem nextB_ok {s : ByteArray} {i : Nat} (h : i < s.size) : nextB s i 0 = (byteN s.data.toList i : Nat) := by rw [nextB, if_neg (by omega)]; rfl
theorem nextB_end {s : ByteArray} {i f : Nat} (h : f ≠ 0 ∨ s.size ≤ i) : nextB s i f = -1 := if_pos h
theorem byteN_ltR (s : List UInt8) (i : Nat) : byteN s i < 256 := UInt8.toNat_lt _
/-- what comes of reading, if nothing has failed yet -/
def Res {α : Type} (f : Nat) (p : PR α) (ok : α → Nat → Prop) (f' : Nat) : Prop := (f ≠ 0 → f' = f) ∧ (f = 0 → (∃ a j, p = .ok a j ∧ ok a j ∧ f' = 0) ∨ ∃ e, p = .bad e ∧ f' = e ∧ e ≠ 0)
theorem Res.failed {α : Type} {f : Nat} {p : PR α} {ok : α → Nat → Prop} (h : f ≠ 0) : Res f p ok f := ⟨fun _ => rfl, fun h0 => absurd h0 h⟩
theorem Res.of_ok {α : Type} {a : α} {j : Nat} {ok : α → Nat → Prop} (h : ok a j) : Res 0 (.ok a j) ok 0 := ⟨fun h => absurd rfl h, fun _ => .inl ⟨a, j, rfl, h, rfl⟩⟩
theorem Res.of_bad {α : Type} {e : Nat} {ok : α → Nat → Prop} (h : e ≠ 0) : Res (α := α) 0 (.bad e) ok e := ⟨fun h => absurd rfl h, fun _ => .inr ⟨e, rfl, rfl, h⟩⟩
/-- a byte was read -/
def ByteAns (base T : Nat) (nv : Value) (s : ByteArray) (n i d f : Nat) (p : PR Nat) (w : World) (x : Ending) (w' : World) : Prop := ∃ b i' f' : Nat, x = .returned (.int .i64 (b : Int)) ∧ TrV w' base T nv s n i' d f' ∧ TB base w w' ∧ b < 256 ∧ i ≤ i' ∧ (i' ≤ i ∨ i' ≤ s.size) ∧ f' ≤ 1000 ∧ Res f p (fun a j => b = a ∧ i' = j) f'
theorem moved (i : Nat) : Value.int .i64 ((i : Int) + 1) = .int .i64 ((i + 1 : Nat) : Int) := by rw [Int.natCast_succ]
set_option maxHeartbeats 1600000 in
theorem rescaped_any (base T : Nat) (nv : Value) (s : ByteArray) (n i d f : Nat) (w : World) (h : TrV w base T nv s n i d f) (hs : s.size ≤ 64) (hi : i ≤ 1000) (hf : f ≤ 1000) :
    Calls Tryz.prog 224 #[.pointer (some ⟨T, 0, none⟩)] w (ByteAns base T nv s n i d f (escP s.data.toList i) w) := by
  have S1 := hidden (rnext_any base T nv s n i d f w h hs hi hf)
  have H := hidden h
  have hsl : s.data.toList.length = s.size := rfl
  clear h
  go_enter Tryz.func224, Tryz.ntmps224
  go_wp2_with fail
  refine S1.out.mono ?_
  rintro e w1 ⟨rfl, q, rfl⟩
  have H1 := hidden (H.out.drewN q)
  have T1 := hidden (Turn.of_below (below_drewN (Below.refl w.heap.size w) q) base [282] false)
  generalize w.drewN q = w1 at *
  clear S1 H
  by_cases h0 : f = 0 ∧ i < s.size
  · obtain ⟨rfl, h1⟩ := h0
    have HP := hidden (show escP s.data.toList i = .ok (byteN s.data.toList i) (i + 1) from if_pos (by omega))
    rw [nextB_ok h1]
    have hb := byteN_ltR s.data.toList i
    generalize byteN s.data.toList i = b at *
    have hb0 : ¬ (b : Int) < 0 := by omega
    obtain ⟨c1, c2, c3, c4, fr⟩ := H1.out.c
    have f2 := fr 2
    have fw : IntKind.i64.wrap ((i : Int) + 1) = (i : Int) + 1 := Go.IntWalk.i64_in _ (by omega)
    have HS := hidden (H1.out.store 2 (.int .i64 ((i : Int) + 1)) (i + 1) d 0 (.inl ⟨rfl, moved i, rfl, rfl⟩))
    clear c1 c3 c4 fr
    go_wp2_with fail
    go_ret
    exact ⟨b, i + 1, 0, rfl, HS.out.1, T1.out.trans HS.out.2, hb, by omega, .inr h1, by omega, by rw [HP.out]; exact Res.of_ok ⟨rfl, rfl⟩⟩
  · rw [nextB_end (by omega)]
    have S2 := hidden (rfail_any base T nv s n i d f 65 w1 H1.out)
    have h0' := hidden h0
    clear h0
    go_wp2_with fail
    refine S2.out.mono ?_
    rintro e w2 ⟨rfl, H2, T2⟩
    have H2 := hidden H2
    have T2 := hidden (T1.out.trans T2)
    clear S2
    go_wp2_with fail
    go_ret
    refine ⟨0, i, failN f 65, rfl, H2.out, T2.out, by omega, Nat.le_refl _, .inl (Nat.le_refl _), by unfold failN; split <;> omega, ?_⟩
    by_cases hf0 : f = 0
    · subst hf0
      have : escP s.data.toList i = .bad 65 := if_neg (by have := h0'.out; omega)
      rw [this]
      exact Res.of_bad (by omega)
    · rw [failN, if_neg hf0]
      exact Res.failed hf0
set_option maxHeartbeats 1600000 in
theorem rletter_any (base T : Nat) (nv : Value) (s : ByteArray) (n i d f : Nat) (w : World) (h : TrV w base T nv s n i d f) (hs : s.size ≤ 64) (hi : i ≤ 900) (hf : f ≤ 1000) :
    Calls Tryz.prog 227 #[.pointer (some ⟨T, 0, none⟩)] w (ByteAns base T nv s n i d f (letP s.data.toList i) w) := by
  have S1 := hidden (rnext_any base T nv s n i d f w h hs (by omega) hf)
  have H := hidden h
  have hsl : s.data.toList.length = s.size := rfl
  clear h
  go_enter Tryz.func227, Tryz.ntmps227
  go_wp2_with fail
  refine S1.out.mono ?_
  rintro e w1 ⟨rfl, q, rfl⟩
  have H1 := hidden (H.out.drewN q)
  have T1 := hidden (Turn.of_below (below_drewN (Below.refl w.heap.size w) q) base [282] false)
  generalize w.drewN q = w1 at *
  clear S1 H
  by_cases h0 : f = 0 ∧ i < s.size
  · obtain ⟨rfl, h1⟩ := h0
    have HP := hidden (show letP s.data.toList i = (if byteN s.data.toList i = 92 then escP s.data.toList (i + 1) else .ok (byteN s.data.toList i) (i + 1)) from if_pos (by omega))
    rw [nextB_ok h1]
    have hb := byteN_ltR s.data.toList i
    generalize byteN s.data.toList i = b at *
    have hb0 : ¬ (b : Int) < 0 := by omega
    obtain ⟨c1, c2, c3, c4, fr⟩ := H1.out.c
    have f2 := fr 2
    have fw : IntKind.i64.wrap ((i : Int) + 1) = (i : Int) + 1 := Go.IntWalk.i64_in _ (by omega)
    have HS := hidden (H1.out.store 2 (.int .i64 ((i : Int) + 1)) (i + 1) d 0 (.inl ⟨rfl, moved i, rfl, rfl⟩))
    clear c1 c3 c4 fr
    by_cases h92 : b = 92
    · subst h92
      rw [if_pos rfl] at HP
      have S2 := hidden (rescaped_any base T nv s n (i + 1) d 0 _ HS.out.1 hs (by omega) (by omega))
      go_wp2_with fail
      refine S2.out.mono ?_
      rintro e w3 ⟨b3, i3, f3, rfl, t3, u3, hb3, hi3, hj3, hf3, r3⟩
      have HF := hidden (And.intro t3 (And.intro u3 (And.intro hi3 (And.intro hj3 r3))))
      clear S2 t3 u3 hi3 hj3 r3
      go_wp2_with fail
      go_ret
      refine ⟨b3, i3, f3, rfl, HF.out.1, (T1.out.trans HS.out.2).trans HF.out.2.1, hb3, by have := HF.out.2.2.1; omega, by have := HF.out.2.2.2.1; omega, hf3, ?_⟩
      rw [HP.out]
      exact HF.out.2.2.2.2
    · rw [if_neg h92] at HP
      have hn92 : ((b : Int) == 92) = false := by simp; omega
      clear h92
      go_wp2_with fail
      go_ret
      exact ⟨b, i + 1, 0, rfl, HS.out.1, T1.out.trans HS.out.2, hb, by omega, .inr h1, by omega, by rw [HP.out]; exact Res.of_ok ⟨rfl, rfl⟩⟩
  · rw [nextB_end (by omega)]
    have S2 := hidden (rfail_any base T nv s n i d f 63 w1 H1.out)
    have h0' := hidden h0
    clear h0
    go_wp2_with fail
    refine S2.out.mono ?_
    rintro e w2 ⟨rfl, H2, T2⟩
    have H2 := hidden H2
    have T2 := hidden (T1.out.trans T2)
    clear S2
    go_wp2_with fail
    go_ret
    refine ⟨0, i, failN f 63, rfl, H2.out, T2.out, by omega, Nat.le_refl _, .inl (Nat.le_refl _), by unfold failN; split <;> omega, ?_⟩
    by_cases hf0 : f = 0
    · subst hf0
      have : letP s.data.toList i = .bad 63 := if_neg (by have := h0'.out; omega)
      rw [this]
      exact Res.of_bad (by omega)
    · rw [failN, if_neg hf0]
      exact Res.failed hf0
end Go.Proofs.YthncochjhbmceaaGreat

namespace Go.Proofs.YthncochjhbmceaaGreat

/-- is the byte in the set? -/
def BS.has (S : BS) (b : Nat) : Bool := (S.at_ (b / 64)).testBit (b % 64)
theorem BS.at_on (S : BS) (k j : Nat) (f : Nat → Nat) (hk : k < 4) (hj : j < 4) : (S.on k f).at_ j = if j = k then f (S.at_ k) else S.at_ j := by
  have h1 : k = 0 ∨ k = 1 ∨ k = 2 ∨ k = 3 := by omega
  have h2 : j = 0 ∨ j = 1 ∨ j = 2 ∨ j = 3 := by omega
  rcases h1 with rfl | rfl | rfl | rfl <;> rcases h2 with rfl | rfl | rfl | rfl <;> rfl
theorem BS.has_put1 (S : BS) (n b : Nat) (hn : n < 256) (hb : b < 256) : (S.put1 n).has b = (S.has b || decide (b = n)) := by
  unfold BS.has BS.put1
  rw [BS.at_on S (n / 64) (b / 64) _ (by omega) (by omega)]
  split
  · rename_i h
    rw [Nat.testBit_or, Nat.testBit_two_pow, h]
    congr 1
    rw [decide_eq_decide]
    omega
  · rename_i h
    have : decide (b = n) = false := decide_eq_false (by omega)
    rw [this, Bool.or_false]
theorem BS.at_lt {S : BS} (h : S.fit) (k : Nat) : S.at_ k < 18446744073709551616 := by
  obtain ⟨h1, h2, h3, h4⟩ := h
  unfold BS.at_
  split
  · exact h1
  · split
    · exact h2
    · split
      · exact h3
      · exact h4
theorem BS.at_not (S : BS) (k : Nat) : S.not.at_ k = 18446744073709551615 - S.at_ k := by
  unfold BS.not BS.at_
  split
  · rfl
  · split
    · rfl
    · split <;> rfl
theorem BS.has_not {S : BS} (h : S.fit) (b : Nat) (_ : b < 256) : S.not.has b = !S.has b := by
  unfold BS.has
  rw [BS.at_not]
  have hl := BS.at_lt h (b / 64)
  generalize S.at_ (b / 64) = x at *
  have := Nat.testBit_two_pow_sub_succ (n := 64) (x := x) hl (b % 64)
  rw [show (2 : Nat) ^ 64 - (x + 1) = 18446744073709551615 - x from by omega] at this
  rw [this]
  have : decide (b % 64 < 64) = true := decide_eq_true (by omega)
  rw [this, Bool.true_and]
theorem zero_bits {x : Nat} (h : x < 18446744073709551616) : x = 0 ↔ ∀ i < 64, x.testBit i = false := by
  constructor
  · rintro rfl i _; simp
  · intro hb
    apply Nat.eq_of_testBit_eq
    intro i
    rw [Nat.zero_testBit]
    by_cases hi : i < 64
    · exact hb i hi
    · refine Nat.testBit_lt_two_pow (Nat.lt_of_lt_of_le h ?_)
      exact Nat.pow_le_pow_right (n := 2) (by omega) (show 64 ≤ i by omega)
theorem BS.zero_iff {S : BS} (h : S.fit) : S.isZero = true ↔ ∀ b < 256, S.has b = false := by
  have h0 := zero_bits (BS.at_lt h 0)
  have h1 := zero_bits (BS.at_lt h 1)
  have h2 := zero_bits (BS.at_lt h 2)
  have h3 := zero_bits (BS.at_lt h 3)
  have e : S.isZero = true ↔ S.at_ 0 = 0 ∧ S.at_ 1 = 0 ∧ S.at_ 2 = 0 ∧ S.at_ 3 = 0 := by
    simp [BS.isZero, BS.at_, and_assoc]
  rw [e, h0, h1, h2, h3]
  constructor
  · rintro ⟨a0, a1, a2, a3⟩ b hb
    unfold BS.has
    have : b / 64 = 0 ∨ b / 64 = 1 ∨ b / 64 = 2 ∨ b / 64 = 3 := by omega
    rcases this with e | e | e | e <;> rw [e]
    · exact a0 _ (by omega)
    · exact a1 _ (by omega)
    · exact a2 _ (by omega)
    · exact a3 _ (by omega)
  · intro hb
    refine ⟨fun i hi => ?_, fun i hi => ?_, fun i hi => ?_, fun i hi => ?_⟩
    · have := hb i (by omega); rwa [BS.has, show i / 64 = 0 from by omega, show i % 64 = i from by omega] at this
    · have := hb (64 + i) (by omega); rwa [BS.has, show (64 + i) / 64 = 1 from by omega, show (64 + i) % 64 = i from by omega] at this
    · have := hb (128 + i) (by omega); rwa [BS.has, show (128 + i) / 64 = 2 from by omega, show (128 + i) % 64 = i from by omega] at this
    · have := hb (192 + i) (by omega); rwa [BS.has, show (192 + i) / 64 = 3 from by omega, show (192 + i) % 64 = i from by omega] at this
theorem BS.has_zero (b : Nat) : BS.zero.has b = false := by
  unfold BS.has BS.zero BS.at_
  repeat' split
  all_goals simp
end Go.Proofs.YthncochjhbmceaaGreat
