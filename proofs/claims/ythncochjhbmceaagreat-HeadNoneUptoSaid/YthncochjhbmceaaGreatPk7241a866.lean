/- index.Add beside a map that is not the index's own: that map stays. Condition: the index is one; the rows are within the reach. Cursors of the package post: what one tells (a rising list), and how it lies in memory. No program is walked here. -/
import Derived.Test.YthncochjhbmceaaGreatPkdffa1c1c
import Derived.Deep.CutBlock
import Derived.Deep.RegionHeld3
import Derived.Test.YthncochjhbmceaaGreatPkb5fb2d9c
namespace Go.Proofs.YthncochjhbmceaaGreat
set_option maxRecDepth 100000
open Go.RowKit

/-- labels in a block of labels, or older than what turns -/
structure LbO (base : Nat) (w : World) (A : Option Addr) (n : Nat) (l : List Lbl) : Prop where
  f : LbF w A n l
  t : 0 < n → ∀ g o, A = some ⟨g, o, none⟩ → g < base ∨ ∃ cs, Whole1 w g 70 cs
theorem LbO.turn {w w' : World} {A : Option Addr} {n : Nat} {l : List Lbl} {base : Nat} {ts : List TypeId} {mp : Bool} (h : LbO base w A n l) (k : Turn base ts mp w w') (hn : 70 ∉ ts) : LbO base w' A n l := by
  have hk : 0 < n → ∀ g o, A = some ⟨g, o, none⟩ → w'.heap[g]? = w.heap[g]? := fun h0 g o e => by
    rcases h.t h0 g o e with hlt | ⟨cs, hw⟩
    · obtain ⟨g', o', e', hb, _⟩ := h.f.row.at_ h0
      rw [e] at e'
      cases e'
      exact k.block g hb (.inl hlt)
    · exact (show w'.heap[g]? = some (.cells cs 70 (0, 0)) from k.whole hw (.inr hn)).trans (show w.heap[g]? = some (.cells cs 70 (0, 0)) from hw).symm
  refine ⟨⟨⟨h.f.row.len, fun h0 => ?_⟩, h.f.len, h.f.fit, h.f.sz⟩, fun h0 g o e => ?_⟩
  · obtain ⟨g, o, e, hb, hc⟩ := h.f.row.at_ h0
    exact ⟨g, o, e, Nat.lt_of_lt_of_le hb k.size, fun j hj => (World.cell?_of_block (w := w) (a := ⟨g, o + j, none⟩) (hk h0 g o e)).trans (hc j hj)⟩
  · rcases h.t h0 g o e with hlt | ⟨cs, hw⟩
    · exact .inl hlt
    · exact .inr ⟨cs, k.whole hw (.inr hn)⟩
theorem LbO.below {w w' : World} {A : Option Addr} {n : Nat} {l : List Lbl} {base : Nat} (h : LbO base w A n l) (hb : Below w.heap.size w w') : LbO base w' A n l := h.turn (Turn.of_below hb base [] false) (by simp)
theorem LbT.o {w : World} {A : Option Addr} {n : Nat} {l : List Lbl} (h : LbT w A n l) (base : Nat) : LbO base w A n l := ⟨h.f, fun h0 g o e => .inr (h.t h0 g o e)⟩
/-- labels that came in lie below what is made since -/
theorem LbF.o {w0 w : World} {A : Option Addr} {n : Nat} {l : List Lbl} (h : LbF w0 A n l) (hb : Below w0.heap.size w0 w) : LbO w0.heap.size w A n l := ⟨h.on hb, fun h0 g o e => by
  obtain ⟨g', o', e', hlt, _⟩ := h.row.at_ h0
  rw [e] at e'
  cases e'
  exact .inl hlt⟩
/-- an index whose maps this one is not among -/
def IdxQ (w : World) (base p : Nat) (E : List (List Lbl)) (q : Nat) : Prop := ∃ sv L bn bl mn ml oM oI, IdxG w base p sv L bn bl mn ml oM oI ∧ L.map SetR.l = E ∧ q ≠ bn ∧ q ≠ bl ∧ oM q = none
theorem IdxQ.idx {w : World} {base p q : Nat} {E : List (List Lbl)} (h : IdxQ w base p E q) : Idx w base p E := by
  obtain ⟨sv, L, bn, bl, mn, ml, oM, oI, h1, h2, _⟩ := h
  exact ⟨sv, L, bn, bl, mn, ml, oM, oI, h1, h2⟩
theorem IdxQ.turn {w w' : World} {base b p q : Nat} {ts : List TypeId} {E : List (List Lbl)} (h : IdxQ w base p E q) (k : Turn b ts false w w') (h1 : 172 ∉ ts) (h2 : 61 ∉ ts) (h3 : 70 ∉ ts) (h4 : 3 ∉ ts) : IdxQ w' base p E q := by
  obtain ⟨sv, L, bn, bl, mn, ml, oM, oI, h, e⟩ := h
  exact ⟨sv, L, bn, bl, mn, ml, oM, oI, h.turn k h1 h2 h3 h4, e⟩
theorem IdxQ.below {w w' : World} {base p q : Nat} {E : List (List Lbl)} (h : IdxQ w base p E q) (k : Below w.heap.size w w') : IdxQ w' base p E q :=
  h.turn (Turn.of_below k w.heap.size [] false) (by simp) (by simp) (by simp) (by simp)
/-- what an index's Add turns, and the map that stays -/
structure TurnQ (S : Value → Prop) (q : Nat) (mq : List (Value × Value)) (base : Nat) (w w' : World) : Prop where
  t : Turn base [172, 61, 3] true w w'
  m : MapV S w' q mq
structure AddQ (S : Value → Prop) (q : Nat) (mq : List (Value × Value)) (w0 w : World) (base p : Nat) (sv : Value) (L : List SetR) (bn bl : Nat) (mn : List (Value × Value)) (G : List (Int × Lbl)) : Prop where
  b : IdxB w base p sv L bn bl mn
  lists : ∃ ml oM oI, ListsG w base bl ml oM oI (nameIn G) G ∧ (oM bn = none ∧ oM q = none)
  turn : TurnQ S q mq base w0 w
theorem AddQ.below {S : Value → Prop} {q : Nat} {mq : List (Value × Value)} {w0 w w' : World} {base p bn bl : Nat} {sv : Value} {L : List SetR} {mn : List (Value × Value)} {G : List (Int × Lbl)} (h : AddQ S q mq w0 w base p sv L bn bl mn G) (hb : Below w.heap.size w w') : AddQ S q mq w0 w' base p sv L bn bl mn G := by
  obtain ⟨ml, oM, oI, h1, h2⟩ := h.lists
  exact ⟨h.b.turn (Turn.of_below hb base [] false) (by simp) (by simp) (by simp), ⟨ml, oM, oI, h1.below hb, h2⟩, ⟨h.turn.t.trans (Turn.of_below hb _ _ _), h.turn.m.kept (hb.block q h.turn.m.lt)⟩⟩
/-- one label more was laid -/
theorem AddQ.step {S : Value → Prop} {q : Nat} {mq : List (Value × Value)} {w0 w W1 w10 w11 : World} {base p bn bl bi k : Nat} {sv : Value} {L : List SetR} {mn ml mi : List (Value × Value)} {oM : Nat → Option ByteArray} {oI : Nat → Option Lbl} {N : ByteArray → Prop} {G : List (Int × Lbl)} {x : Lbl} {n : Int} {u v' : Value} {xs : List Value} {j : Nat}
    (hB : IdxB w base p sv L bn bl mn) (hL : ListsG w base bl ml oM oI N G) (hN : ∀ nm, N nm ↔ (nameIn G nm ∨ nm = x.name)) (hoM : oM bn = none ∧ oM q = none) (ho : atV ml (.string x.name) = some (.map (some bi))) (hT : TurnQ S q mq base w0 w)
    (hmi : MapV IsStr w bi mi) (hbi : base ≤ bi) (hoi : oM bi = some x.name) (hu : (atV mi (.string x.value)).getD (.slice none 0 0) = u) (hb1 : Below w.heap.size w W1) (hua : W1.ownsRow base 3 1 u j xs) (hown : w10.ownsRow base 3 1 v' k ((ixs G x).map (Value.int .i64) ++ [.int .i64 n])) (hg2 : W1.grownBy w10 u.ownBlock)
    (hv : v'.ownBlock = u.ownBlock ∨ v'.ownBlock = some W1.heap.size) (hst : MapV IsStr w11 bi (putV mi (.string x.value) v')) (hg3 : w10.grownBy w11 (some bi)) :
    AddQ S q mq w0 w11 base p sv L bn bl mn (G ++ [(n, x)]) ∧ ∀ A k l, LbO base w A k l → LbO base w11 A k l := by
  have hLn := hL.added ho hmi hu hb1 (by rw [List.map_append]; exact hown) hg2 hv hst hg3
  have t1 : Turn base [] false w W1 := Turn.of_below hb1 _ _ _
  have t2 : Turn base [3] false W1 w10 := Turn.of_own hua (Nat.le_refl _) (by simp) hg2
  have m10 := t2.mapV (t1.mapV hmi (.inr rfl)) (.inr rfl)
  have t3 : Turn base [] true w10 w11 := Turn.of_map m10 hbi hg3
  have hne : bi ≠ bn := fun e => by rw [e, hoM.1] at hoi; cases hoi
  have hqi : q ≠ bi := fun e => by rw [← e, hoM.2] at hoi; cases hoi
  have hB' := ((hB.turn t1 (by simp) (by simp) (by simp)).turn t2 (by decide) (by decide) (by decide)).store m10 hg3 hne
  have q10 := t2.mapV (t1.mapV hT.m (.inr rfl)) (.inr rfl)
  refine ⟨⟨hB', ⟨_, _, _, hLn.iff fun nm => ?_, hoM⟩, ⟨hT.t.trans ((t1.wider (Nat.le_refl _) (by simp) (by simp)).trans ((t2.wider (Nat.le_refl _) (by simp) (by simp)).trans (t3.wider (Nat.le_refl _) (by simp) id))), q10.kept (hg3.block q q10.lt (by simpa using hqi))⟩⟩, fun A k l h => ((h.turn t1 (by simp)).turn t2 (by decide)).turn t3 (by simp)⟩
  rw [hN]
  constructor
  · rintro (⟨y, hy, e⟩ | e)
    · exact ⟨y, List.mem_append_left _ hy, e⟩
    · exact ⟨(n, x), by simp, e.symm⟩
  · rintro ⟨y, hy, e⟩
    rcases List.mem_append.1 hy with hy | hy
    · exact .inl ⟨y, hy, e⟩
    · rw [List.mem_singleton.1 hy] at e
      exact .inr e.symm
set_option maxHeartbeats 12800000 in
theorem idx_addQ {S : Value → Prop} (q : Nat) (mq : List (Value × Value)) (A : Option Addr) (n c : Nat) (l : List Lbl) (w : World) {base p : Nat} {E : List (List Lbl)} (h : IdxQ w base p E q) (hmq : MapV S w q mq) (hT : LbO base w A n l) (hnc : n ≤ c) (hb : base ≤ w.heap.size) (hE : E.length ≤ 1048576) :
    Calls Tryz.prog 30 #[.pointer (some ⟨p, 0, none⟩), .slice A n c] w fun e w' => e = .returned (.tuple #[.int .i64 (addE E l).1.1, .bool (addE E l).1.2.1, .int .i64 (addE E l).1.2.2]) ∧ IdxQ w' base p (addE E l).2 q ∧ TurnQ S q mq base w w' := by
  have HMQ := hidden hmq
  clear hmq
  have hl := hT.f
  have S1 := hidden (lenc_any A n c l w hl hnc)
  have hval := h.idx.valid
  have H := hidden h
  have HL := hidden hT
  clear hT
  by_cases hv : validP l
  · have e2 : (encLb l).2 = 0 := enc_fit.2 hv
    cases hat : atE E l with
    | some i =>
      have eA : addE E l = ((((i : Nat) : Int), false, 0), E) := by
        unfold addE
        rw [if_neg (by rw [e2]; simp), hat]
      rw [eA]
      rw [e2] at S1
      have HAT := hidden hat
      clear h hl hat eA
      go_enter Tryz.func30, Tryz.ntmps30
      go_wp2_with fail
      refine S1.out.mono ?_
      rintro e w1 ⟨rfl, b1⟩
      have h1 := H.out.below b1
      have HI := hidden h1
      obtain ⟨sv, L, bn, bl, mn, ml, oM, oI, h1, rfl, hqn, hql, hqo⟩ := h1
      have c1 := h1.b.blk.cell 1
      have hat := h1.at_ hv
      have hL := h1.b.num.look keyStr h1.b.num.strs Tryz.underlying168 (zero_i w1) (key := .string (encLb l).1) ⟨_, rfl⟩ true
      simp only [if_true] at hL
      rw [hat, HAT.out] at hL
      simp only [Option.map_some, Option.getD_some, Option.isSome_some] at hL
      generalize (encLb l).1 = key at *
      clear hat h1 S1
      go_wp2_with fail
      go_ret3
      exact ⟨rfl, HI.out, ⟨Turn.of_below b1 _ _ _, HMQ.out.kept (b1.block q HMQ.out.lt)⟩⟩
    | none =>
      have eA : addE E l = (((E.length : Int), true, 0), E ++ [l]) := by
        unfold addE
        rw [if_neg (by rw [e2]; simp), hat]
      rw [eA]
      rw [e2] at S1
      have HAT := hidden hat
      clear h hl hat eA
      go_enter Tryz.func30, Tryz.ntmps30
      go_wp2_with fail
      refine S1.out.mono ?_
      rintro e w1 ⟨rfl, b1⟩
      have h1 := H.out.below b1
      have HL1 := hidden (HL.out.below b1)
      have hbw1 : base ≤ w1.heap.size := by have := b1.size; omega
      obtain ⟨sv, L, bn, bl, mn, ml, oM, oI, h1, rfl, hqn, hql, hqo⟩ := h1
      obtain ⟨As, cs, rfl, hcs, _⟩ := own_shape h1.b.sets
      have c0 := h1.b.blk.cell 0
      have c1 := h1.b.blk.cell 1
      have hat := h1.at_ hv
      have hL := h1.b.num.look keyStr h1.b.num.strs Tryz.underlying168 (zero_i w1) (key := .string (encLb l).1) ⟨_, rfl⟩ true
      simp only [if_true] at hL
      rw [hat, HAT.out] at hL
      simp only [Option.map_none, Option.getD_none, Option.isSome_none] at hL
      obtain ⟨w2, hrun, hm2, hg2, hz2⟩ := h1.b.num.store (P := Tryz.prog) keyStr h1.b.num.strs Tryz.underlying168 (key := .string (encLb l).1) ⟨_, rfl⟩ ⟨_, rfl⟩ (.int .i64 (L.length : Nat))
      have H1 := hidden h1
      have HM2 := hidden hm2
      have HG2 := hidden hg2
      obtain ⟨key, hkey⟩ : ∃ key, (encLb l).1 = key := ⟨_, rfl⟩
      have HKEY := hidden hkey
      rw [hkey] at hL hrun HM2 ⊢
      have hLc := h1.b.sets.1
      rw [List.length_map] at hE
      clear hat h1 S1 hm2 hg2 hkey
      obtain ⟨mn2, hmn2⟩ : ∃ mn2, putV mn (.string key) (.int .i64 (L.length : Nat)) = mn2 := ⟨_, rfl⟩
      rw [hmn2] at HM2
      have HMN := hidden hmn2
      have k2 : Turn 0 [] true w1 w2 := Turn.of_map H1.out.b.num (Nat.zero_le _) HG2.out
      have k2b : Turn base [] true w1 w2 := Turn.of_map H1.out.b.num H1.out.b.nb HG2.out
      have hB2 : IdxB w2 base p (.slice As L.length cs) L bn bl mn2 := ⟨k2.whole H1.out.b.blk (.inr (by simp)), H1.out.b.pb, k2.own H1.out.b.sets (.inl (by simp)), fun s hs => k2.own (H1.out.b.lab s hs) (.inl (by simp)), HM2.out, H1.out.b.nb, H1.out.b.ne⟩
      have hli2 := H1.out.lists.store H1.out.b.num HG2.out H1.out.b.ne H1.out.noM
      have HLI := hidden hli2
      have HL2 := hidden (HL1.out.turn k2b (by simp))
      have hb12 : Below w.heap.size w w1 := b1
      have hw2s : base ≤ w2.heap.size := by omega
      have HB2 := hidden hB2
      have HQ2 := hidden (show MapV S w2 q mq from by
        have h9 := HMQ.out.kept (b1.block q HMQ.out.lt)
        exact h9.kept (HG2.out.block q h9.lt (by simpa using hqn)))
      have HQO := hidden hqo
      have HQN := hidden (And.intro hqn hql)
      clear hqn hql hqo
      have HK2 := hidden (Turn.trans (Turn.of_below b1 base [172, 61, 3] true) (k2b.wider (Nat.le_refl _) (by simp) id))
      go_upto_region 11 with (fail)
      clear hL hrun c0 c1 k2 k2b hli2 hB2 hmn2 hb12 HG2
      go_cut [] (fun wx => ∃ sv nv, Hid (AddQ S q mq w wx base p sv (L ++ [⟨nv, l⟩]) bn bl mn2 (flatE (L.map SetR.l))) ∧ Hid (LbO base wx A n l))
      case first =>
        obtain ⟨i0, hi, hz0, hz1, hz2⟩ := info_parts infoLs
        have e0 := HB2.out.blk.cell 0
        have hlen := HL2.out.f.len
        have hfit := HL2.out.f.fit
        have SC := hidden (ClnLbl.cloneO_any A n c l w2.drew (HL2.out.below (Below.refl _ _).drew).f.row hlen (by omega))
        go_region_law (first
          | (go_simp; go_at_call 32; refine SC.out.mono ?_; rintro e w3 ⟨⟨zA, zn, zc, zl⟩, rfl, _, _, _, _, b3, ho3⟩; simp only [Sl.val] at ho3 ⊢; have HO3 := hidden (ho3 (by have := valid_pos hv; omega)); have hB3 := (HB2.out.turn (Turn.of_below ((Below.refl _ _).drew.trans b3) base [] false) (by simp) (by simp) (by simp)); have q0 := hB3.blk.cell 0; have q0a := (hB3.blk.alloc (.cells #[.slice zA zn zc] 61)).cell 0; have T := fun (ops : Array Oper) (o : Oper) (a : Act) (K : Act → World → Prop) (Q : Exit → Act → World → Prop) (E : Prop) (hg : o.guard = none) (s1 s2 : Operand) (ho : o.op = .call { callee := .builtin .append, args := #[s1, s2], argTypes := #[170, 170] }) (hs : a.eval s1 = .slice As L.length cs) (hx : a.eval s2 = .slice (some ⟨w3.heap.size, 0, none⟩) 1 1) h => step_appA (P := Tryz.prog) (ops := ops) (o := o) (a := a) (K := K) (Q := Q) (E := E) (w3.alloc (.cells #[.slice zA zn zc] 61)) hg s1 s2 170 ho base 61 i0 _ 1 24 Tryz.underlying170 hi hz0 hz1 hz2 rfl (by decide) _ _ _ hs (hB3.sets.alloc _) _ _ _ _ _ hx (Row.fresh w3 61 1 1 [.slice zA zn zc] rfl) (by simp [Value.oneCell']) (by unfold maxLen; omega) (by omega) (by rw [World.size_alloc]; have := b3.size; have e3 : w2.drew.heap.size = w2.heap.size := rfl; omega) h)
          | (refine T _ _ _ _ _ _ rfl _ _ rfl rfl rfl ?_; intro v10 w10 hown10 hg10 hat10; obtain ⟨A10, c10, rfl, hc10, _⟩ := own_shape hown10; obtain ⟨hp10, hIB, hIT⟩ := HB2.out.grown hw2s (((Below.refl w2.heap.size w2).drew.trans b3).alloc (by have := b3.size; exact this) (.cells #[.slice zA zn zc] 61)) (by rw [show l.length = n from hlen]; exact HO3.out.alloc _) hown10 hg10; have HP10 := hidden hp10; have r0 := hp10.cell 0; have f0 := hp10.free 0; have HIB := hidden hIB; have HIT := hidden hIT))
        all_goals
          go_wp2_with fail
          go_meet
          exact ⟨_, _, hidden ⟨HIB.out, ⟨ml, oM, oI, HLI.out.turn HIT.out (by decide), ⟨H1.out.noM, HQO.out⟩⟩, ⟨HK2.out.trans (HIT.out.wider (Nat.le_refl _) (by simp) (by simp)), HIT.out.mapV HQ2.out (.inr rfl)⟩⟩, hidden (HL2.out.turn HIT.out (by decide))⟩
      case rest =>
        obtain ⟨sv, nv, hA, hLb⟩ := hcut
        have HVX := hidden hv
        clear HB2 HLI HL2 HK2 HM2 HL1
        go_wp2_with fail
        go_loopw [59] (fun vi wr => ∃ k : Nat, vi = .int .i64 (k : Int) ∧ k ≤ n ∧ Hid (AddQ S q mq w wr base p sv (L ++ [⟨nv, l⟩]) bn bl mn2 (flatE (L.map SetR.l) ++ (l.take k).map fun z => (((L.length : Nat) : Int), z))) ∧ Hid (LbO base wr A n l)) (fun vi _ => n - (intOf vi).toNat)
        case atStart => exact ⟨0, rfl, Nat.zero_le _, hidden (by simpa using hA.out), hLb⟩
        case round =>
          obtain ⟨k, rfl, hk, hI, hT⟩ := hrel
          have k0 : (0 : Int) ≤ (k : Int) := by omega
          by_cases hlt : k < n
          · have k1 : (k : Int) < (n : Int) := by omega
            have HLT := hidden (show k + 1 ≤ n from hlt)
            obtain ⟨g, o, x, rfl, hg, hx, c0, c1, hxm⟩ := lb_cells hT.out.f hlt
            have HTX := hidden (take_snoc? hx)
            have fwk : IntKind.i64.wrap ((k : Int) + 1) = (k : Int) + 1 := Go.IntWalk.i64_in _ (by have := hT.out.f.fit; omega)
            obtain ⟨w1, hw1⟩ : ∃ w1, wr.alloc (.cells #[.string x.name, .string x.value] 70) = w1 := ⟨_, rfl⟩
            obtain ⟨X, hX⟩ : ∃ X, wr.heap.size = X := ⟨_, rfl⟩
            have hx1 : Whole1 w1 X 70 #[.string x.name, .string x.value] := by rw [← hX, ← hw1]; exact Whole1.new wr _ _
            have hb1 : Below wr.heap.size wr w1 := hw1 ▸ (Below.refl _ _).alloc (Nat.le_refl _) _
            have HI1 := hidden (hI.out.below hb1)
            have HT1 := hidden (hT.out.below hb1)
            have HX1 := hidden hx1
            have HW := hidden hw1
            have HXX := hidden hX
            obtain ⟨ml1, oM1, oI1, hl1, hoM1⟩ := HI1.out.lists
            have HLs := hidden hl1
            have HOM := hidden hoM1
            clear hx hxm hw1 hx1 hb1 hX hl1 hoM1 hA hLb
            go_upto_region 15 with (fail)
            rw [HXX.out, HW.out]
            clear c0 c1
            have d0 := HX1.out.cell 0
            have d1 := HX1.out.cell 1
            have p2 := HI1.out.b.blk.cell 2
            have hlook := (HLs.out.map.kept (w' := w1.drew) rfl).look keyStr (HLs.out.map.kept (w' := w1.drew) rfl).strs Tryz.underlying169 (zero_mm w1.drew) (key := .string x.name) ⟨_, rfl⟩ false
            simp only [Bool.false_eq_true, if_false] at hlook
            have heq0 : ∀ w, (binOp .eql 186 (.map none) (.map none)).run Tryz.prog w = .ok (.bool true) w := eql_map none
            have heq1 : ∀ (b : Nat) (w : World), (binOp .eql 186 (.map (some b)) (.map none)).run Tryz.prog w = .ok (.bool false) w := fun b => eql_map (some b)
            go_cut [70] (fun vq wx => vq = .bool (atV ml1 (.string x.name)).isNone ∧ wx = w1.drew)
            case first =>
              cases hat1 : atV ml1 (.string x.name) with
              | none =>
                rw [hat1] at hlook
                simp only [Option.getD_none] at hlook
                go_region
                go_wp2_with fail
                go_meet
                exact ⟨by rw [hat1]; rfl, rfl⟩
              | some vm =>
                obtain ⟨hN, bi, mi, rfl, _⟩ := HLs.out.hit _ _ hat1
                rw [hat1] at hlook
                simp only [Option.getD_some] at hlook
                go_region
                go_wp2_with fail
                go_meet
                exact ⟨by rw [hat1]; rfl, rfl⟩
            case rest =>
              obtain ⟨rfl, rfl⟩ := hcut
              have hdr : Below w1.heap.size w1 w1.drew := (Below.refl _ _).drew
              have HI5 := hidden (HI1.out.below hdr)
              have HL5 := hidden (HLs.out.below hdr)
              have HT5 := hidden (HT1.out.below hdr)
              have HX5 := hidden (HX1.out.below hdr HX1.out.lt)
              have HS5 := hidden (show wr.heap.size ≤ w1.drew.heap.size from by have := HX1.out.lt; have := HXX.out; show wr.heap.size ≤ w1.heap.size; omega)
              clear hlook HI1 HLs HT1 HX1 hdr d0 d1 p2 hI hT
              generalize w1.drew = w5 at *
              go_upto_if 70 with (fail)
              go_cut [] (fun wx => ∃ ml2 oM2 oI2 bi, Hid (IdxB wx base p sv (L ++ [⟨nv, l⟩]) bn bl mn2) ∧ Hid (ListsG wx base bl ml2 oM2 oI2 (fun nm => nameIn (flatE (L.map SetR.l) ++ (l.take k).map fun z => (((L.length : Nat) : Int), z)) nm ∨ nm = x.name) (flatE (L.map SetR.l) ++ (l.take k).map fun z => (((L.length : Nat) : Int), z))) ∧ (oM2 bn = none ∧ oM2 q = none) ∧ atV ml2 (.string x.name) = some (.map (some bi)) ∧ Hid (TurnQ S q mq base w wx) ∧ Hid (LbO base wx (some ⟨g, o, none⟩) n l) ∧ Hid (Whole1 wx X 70 #[.string x.name, .string x.value]))
              case first =>
                cases hat1 : atV ml1 (.string x.name) with
                | none =>
                  have d0 := HX5.out.cell 0
                  have p2 := HI5.out.b.blk.cell 2
                  have mk := mk92m
                  have hB6 := HL5.out.below ((Below.refl w5.heap.size w5).drew)
                  obtain ⟨w7, hrun, hm7, hg7, hz7⟩ := (hB6.below ((Below.refl w5.drew.heap.size w5.drew).alloc (Nat.le_refl _) (.map #[] 0))).map.store (P := Tryz.prog) keyStr (hB6.below ((Below.refl w5.drew.heap.size w5.drew).alloc (Nat.le_refl _) (.map #[] 0))).map.strs Tryz.underlying169 (key := .string x.name) ⟨_, rfl⟩ ⟨_, rfl⟩ (.map (some w5.heap.size))
                  have hrun2 : (Instr.mapUpdate 169 (.map (some bl)) (.string x.name) (.map (some w5.heap.size))).run Tryz.prog ((w5.alloc (.map #[] 0)).drew) = .ok () w7 := hrun
                  have p2a : (w5.drew.alloc (.map #[] 0)).cell? ⟨p, 2, none⟩ = some (.map (some bl)) := (HI5.out.b.blk.below (((Below.refl w5.heap.size w5).drew).alloc (Nat.le_refl _) _) HI5.out.b.blk.lt).cell 2
                  have p2b : ((w5.alloc (.map #[] 0)).drew).cell? ⟨p, 2, none⟩ = some (.map (some bl)) := p2a
                  have d0a : (w5.drew.alloc (.map #[] 0)).cell? ⟨X, 0, none⟩ = some (.string x.name) := (HX5.out.below (((Below.refl w5.heap.size w5).drew).alloc (Nat.le_refl _) _) HX5.out.lt).cell 0
                  have d0b : ((w5.alloc (.map #[] 0)).drew).cell? ⟨X, 0, none⟩ = some (.string x.name) := d0a
                  have hB5s : base ≤ w5.drew.heap.size := by have := HS5.out; have := HI5.out.turn.t.size; show base ≤ w5.heap.size; omega
                  have hmade := hB6.made hat1 hB5s hm7 hg7
                  have hbel : Below w5.heap.size w5 (w5.drew.alloc (.map #[] 0)) := ((Below.refl w5.heap.size w5).drew).alloc (Nat.le_refl _) _
                  have hMp := (hB6.below ((Below.refl w5.drew.heap.size w5.drew).alloc (Nat.le_refl _) (.map #[] 0))).map
                  have hb7 := (HI5.out.b.turn (Turn.of_below hbel base [] false) (by simp) (by simp) (by simp)).store hMp hg7 (Ne.symm HI5.out.b.ne)
                  have t7 : Turn base [] true (w5.drew.alloc (.map #[] 0)) w7 := Turn.of_map hMp HL5.out.old hg7
                  have HF := hidden (And.intro hb7 (And.intro hmade (And.intro (show TurnQ S q mq base w w7 from ⟨HI5.out.turn.t.trans ((Turn.of_below hbel base [172, 61, 3] true).trans (t7.wider (Nat.le_refl _) (by simp) id)), (HI5.out.turn.m.kept (hbel.block q HI5.out.turn.m.lt)).kept (hg7.block q (by have h8 := HI5.out.turn.m.lt; have h9 := hbel.size; omega) (by simpa using HQN.out.2))⟩) (And.intro ((HT5.out.below hbel).turn t7 (by simp)) (t7.whole (HX5.out.below hbel HX5.out.lt) (.inr (by simp)))))))
                  have hbn : bn ≠ w5.heap.size := by have := HI5.out.b.num.lt; omega
                  have hqs : q ≠ w5.heap.size := by have := HI5.out.turn.m.lt; omega
                  clear hB6 hm7 hg7 hz7 hmade hMp hb7 t7 hbel
                  go_wp2_with fail
                  go_region
                  all_goals
                    go_wp2_with fail
                    go_meet
                    exact ⟨_, _, _, _, hidden HF.out.1, hidden HF.out.2.1, ⟨by show (if bn = w5.heap.size then some x.name else oM1 bn) = none; rw [if_neg hbn]; exact HOM.out.1, by show (if q = w5.heap.size then some x.name else oM1 q) = none; rw [if_neg hqs]; exact HOM.out.2⟩, atV_put_same _ _ _, hidden HF.out.2.2.1, hidden HF.out.2.2.2.1, hidden HF.out.2.2.2.2⟩
                | some vm =>
                  obtain ⟨hN, bi, mi, rfl, _⟩ := HL5.out.hit _ _ hat1
                  go_wp2_with fail
                  go_meet
                  exact ⟨ml1, oM1, oI1, bi, hidden HI5.out.b, hidden (HL5.out.iff fun y => ⟨.inl, fun h => h.elim id fun e => by rw [e]; exact hN⟩), HOM.out, hat1, hidden HI5.out.turn, HT5, HX5⟩
              case rest =>
                obtain ⟨ml2, oM2, oI2, bi, hB8, hL8, hoM, hat8, hTu8, hT8, hX8⟩ := hcut
                clear HI5 HL5 HT5 HX5 HOM
                obtain ⟨G, hG⟩ : ∃ G, (flatE (L.map SetR.l) ++ (l.take k).map fun z => (((L.length : Nat) : Int), z)) = G := ⟨_, rfl⟩
                rw [hG] at hL8
                have hGl : G.length ≤ 16777216 := by
                  have h1 := flatE_len (L.map SetR.l) (fun z hz => by exact (makeErr_ok (hval.1 z hz).1).2.1)
                  have h2 := (makeErr_ok HVX.out.1).2.1
                  rw [← hG, List.length_append, List.length_map, List.length_take]
                  rw [List.length_map] at h1
                  omega
                have HGG := hidden hG
                clear hG
                obtain ⟨hNx, bi', mi, e1, hbi, hbne, hoMx, hmi, hIn⟩ := hL8.out.hit _ _ hat8
                obtain rfl : bi = bi' := by simpa using e1
                have hix := ixs_len G x
                have hu := hIn.row x.value
                obtain ⟨u, hu0⟩ : ∃ u, (atV mi (.string x.value)).getD (.slice none 0 0) = u := ⟨_, rfl⟩
                rw [hu0, show (⟨x.name, x.value⟩ : Lbl) = x from rfl] at hu
                obtain ⟨iu, hiu⟩ : ∃ iu, (ixs G x).length = iu := ⟨_, rfl⟩
                rw [hiu] at hu hix
                obtain ⟨Au, cu, rfl, hcu, _⟩ := own_shape hu
                obtain ⟨i0, hi, hz0, hz1, hz2⟩ := info_parts infoI
                obtain ⟨W1, hW1⟩ : ∃ W1, wc.drew.alloc (.cells #[.int .i64 (L.length : Nat)] 3) = W1 := ⟨_, rfl⟩
                have hbel : Below wc.heap.size wc W1 := hW1 ▸ ((Below.refl wc.heap.size wc).drew).alloc (Nat.le_refl _) _
                have hdr : Below wc.heap.size wc wc.drew := (Below.refl _ _).drew
                have hfr := Row.fresh wc.drew 3 1 1 [.int .i64 (L.length : Nat)] rfl
                rw [hW1] at hfr
                have p2 := (hB8.out.blk.below hdr hB8.out.blk.lt).cell 2
                have p2a := (hB8.out.blk.below hbel hB8.out.blk.lt).cell 2
                have d0 := (hX8.out.below hdr hX8.out.lt).cell 0
                have d0a := (hX8.out.below hbel hX8.out.lt).cell 0
                have d1 := (hX8.out.below hdr hX8.out.lt).cell 1
                have d1a := (hX8.out.below hbel hX8.out.lt).cell 1
                have lk := (hL8.out.below hdr).map.look keyStr (hL8.out.below hdr).map.strs Tryz.underlying169 (zero_mm wc.drew) (key := .string x.name) ⟨_, rfl⟩ false
                have lka := (hL8.out.below hbel).map.look keyStr (hL8.out.below hbel).map.strs Tryz.underlying169 (zero_mm W1) (key := .string x.name) ⟨_, rfl⟩ false
                simp only [Bool.false_eq_true, if_false, hat8, Option.getD_some] at lk lka
                have hmd := hmi.kept (hdr.block bi hmi.lt)
                have hma := hmi.kept (hbel.block bi hmi.lt)
                have li := hmd.look keyStr hmd.strs Tryz.underlying186 (zero_is wc.drew) (key := .string x.value) ⟨_, rfl⟩ false
                have lia := hma.look keyStr hma.strs Tryz.underlying186 (zero_is W1) (key := .string x.value) ⟨_, rfl⟩ false
                simp only [Bool.false_eq_true, if_false, hu0] at li lia
                have hua : W1.ownsRow base 3 1 (.slice Au iu cu) iu ((ixs G x).map (Value.int .i64)) := own_below hu hbel (Nat.le_refl _)
                have hbs : base ≤ W1.heap.size := by have := hbel.size; have := hB8.out.blk.lt; have := hB8.out.pb; omega
                have HBX := hidden (And.intro hbi (And.intro hbne (And.intro hoMx (And.intro hmi hma))))
                have HIU := hidden hiu
                have HU0 := hidden hu0
                have HUA := hidden hua
                have HBS := hidden hbs
                have T := fun (ops : Array Oper) (oo : Oper) (a : Act) (K : Act → World → Prop) (Q : Exit → Act → World → Prop) (E : Prop) (hg : oo.guard = none) (s1 s2 : Operand) (ho : oo.op = .call { callee := .builtin .append, args := #[s1, s2], argTypes := #[127, 127] }) (hs : a.eval s1 = .slice Au iu cu) (hx : a.eval s2 = .slice (some ⟨wc.drew.heap.size, 0, none⟩) 1 1) h => step_appA (P := Tryz.prog) (ops := ops) (o := oo) (a := a) (K := K) (Q := Q) (E := E) W1 hg s1 s2 127 ho base 3 i0 _ 1 8 Tryz.underlying127 hi hz0 hz1 hz2 rfl (by decide) _ _ _ hs HUA.out _ _ _ _ _ hx hfr (by simp [Value.oneCell']) (by unfold maxLen; omega) (by omega) HBS.out h
                clear hua hma hmd hmi hIn hbi hbne hoMx hiu hu0 hNx hbs hu hdr
                subst hW1
                have lka2 : (Instr.lookup 169 (.map (some bl)) (.string x.name) false).run Tryz.prog ((wc.alloc (.cells #[.int .i64 (L.length : Nat)] 3)).drew) = .ok (.map (some bi)) ((wc.alloc (.cells #[.int .i64 (L.length : Nat)] 3)).drew) := lka
                have lia2 : (Instr.lookup 186 (.map (some bi)) (.string x.value) false).run Tryz.prog ((wc.alloc (.cells #[.int .i64 (L.length : Nat)] 3)).drew) = .ok (.slice Au iu cu) ((wc.alloc (.cells #[.int .i64 (L.length : Nat)] 3)).drew) := lia
                have p2a2 : ((wc.alloc (.cells #[.int .i64 (L.length : Nat)] 3)).drew).cell? ⟨p, 2, none⟩ = some (.map (some bl)) := p2a
                have d0a2 : ((wc.alloc (.cells #[.int .i64 (L.length : Nat)] 3)).drew).cell? ⟨X, 0, none⟩ = some (.string x.name) := d0a
                have d1a2 : ((wc.alloc (.cells #[.int .i64 (L.length : Nat)] 3)).drew).cell? ⟨X, 1, none⟩ = some (.string x.value) := d1a
                go_wp2_with fail
                have hS0 := And.intro p2 (And.intro d0 d1)
                have hS1 := And.intro p2a (And.intro d0a d1a)
                clear p2 d0 d1 p2a d0a d1a p2a2 d0a2 d1a2
                go_region_held3 (fun w' => w'.cell? ⟨p, 2, none⟩ = some (.map (some bl)) ∧ w'.cell? ⟨X, 0, none⟩ = some (.string x.name) ∧ w'.cell? ⟨X, 1, none⟩ = some (.string x.value))
                  (first | exact hS11 | exact hS10 | exact hS0 | exact hS1)
                  (first | (refine T _ _ _ _ _ _ rfl _ _ rfl rfl rfl ?_; intro v10 w10 hown10 hg10 hat10; obtain ⟨A10, c10, rfl, hc10, _⟩ := own_shape hown10; have t10 : Turn base [3] false _ w10 := Turn.of_own HUA.out (Nat.le_refl _) (by simp) hg10; have m10 := t10.mapV HBX.out.2.2.2.2 (.inr rfl); obtain ⟨w11, hrun, hm11, hg11, hz11⟩ := m10.store (P := Tryz.prog) keyStr m10.strs Tryz.underlying186 (key := .string x.value) ⟨_, rfl⟩ ⟨_, rfl⟩ (.slice A10 (iu + 1) c10); have p2c := (t10.whole (hB8.out.blk.below hbel hB8.out.blk.lt) (.inr (by decide))).cell 2; have d0c := (t10.whole (hX8.out.below hbel hX8.out.lt) (.inr (by decide))).cell 0; have d1c := (t10.whole (hX8.out.below hbel hX8.out.lt) (.inr (by decide))).cell 1; have hl10 := t10.mapV (hL8.out.below hbel).map (.inr rfl); have lkc := hl10.look keyStr hl10.strs Tryz.underlying169 (zero_mm w10) (key := .string x.name) ⟨_, rfl⟩ false; simp only [Bool.false_eq_true, if_false, hat8, Option.getD_some] at lkc; have HST := hidden (AddQ.step hB8.out hL8.out (fun _ => Iff.rfl) hoM hat8 hTu8.out HBX.out.2.2.2.1 HBX.out.1 HBX.out.2.2.1 HU0.out hbel HUA.out hown10 hg10 hat10 hm11 hg11); have hS10 := And.intro p2c (And.intro d0c d1c); have hS11 : w11.cell? ⟨p, 2, none⟩ = some (.map (some bl)) ∧ w11.cell? ⟨X, 0, none⟩ = some (.string x.name) ∧ w11.cell? ⟨X, 1, none⟩ = some (.string x.value) := (have t11 : Turn 0 [] true w10 w11 := Turn.of_map m10 (Nat.zero_le _) hg11; ⟨(t11.whole (t10.whole (hB8.out.blk.below hbel hB8.out.blk.lt) (.inr (by decide))) (.inr (by simp))).cell 2, (t11.whole (t10.whole (hX8.out.below hbel hX8.out.lt) (.inr (by decide))) (.inr (by simp))).cell 0, (t11.whole (t10.whole (hX8.out.below hbel hX8.out.lt) (.inr (by decide))) (.inr (by simp))).cell 1⟩); clear hm11 hg11 hz11 hl10 m10 t10 hown10 hg10 hat10 p2c d0c d1c))
                all_goals
                  go_wp2_with fail
                  go_roundw
                  case rel =>
                    refine ⟨k + 1, by go_num, HLT.out, hidden ?_, hidden (HST.out.2 _ _ _ hT8.out)⟩
                    rw [HTX.out, List.map_append, List.map_singleton, ← List.append_assoc, HGG.out]
                    exact HST.out.1
                  case measure => have := HLT.out; simp [intOf]; omega
          · obtain rfl : n = k := by omega
            have HF := hidden (show IdxQ wr base p (L.map SetR.l ++ [l]) q ∧ TurnQ S q mq base w wr from by
              obtain ⟨hb, ⟨ml', oM', oI', hl', ho'⟩, ht⟩ := hI.out
              rw [List.take_of_length_le (by rw [hT.out.f.len]; exact Nat.le_refl _)] at hl'
              exact ⟨⟨sv, _, bn, bl, mn2, ml', oM', oI', IdxG.added (x := ⟨nv, l⟩) H1.out HVX.out HAT.out (by show mn2 = putV mn (.string (encLb l).1) _; rw [HKEY.out]; exact HMN.out.symm) hb hl' ho'.1, by simp, HQN.out.1, HQN.out.2, ho'.2⟩, ht⟩)
            go_wp2_with fail
            go_ret3
            rw [List.length_map]
            exact ⟨rfl, HF.out⟩
  · have e2 : ¬ (encLb l).2 = 0 := fun h => hv (enc_fit.1 h)
    have hne : ((encLb l).2 != 0) = true := by simpa using e2
    have eA : addE E l = ((0, false, (encLb l).2), E) := if_pos e2
    rw [eA]
    generalize (encLb l).2 = er at *
    clear h hl eA
    go_enter Tryz.func30, Tryz.ntmps30
    go_wp2_with fail
    refine S1.out.mono ?_
    rintro e w1 ⟨rfl, b1⟩
    have h1 := hidden (H.out.below b1)
    clear S1
    go_wp2_with fail
    go_ret3
    exact ⟨rfl, h1.out, ⟨Turn.of_below b1 _ _ _, HMQ.out.kept (b1.block q HMQ.out.lt)⟩⟩
end Go.Proofs.YthncochjhbmceaaGreat

namespace Go.Proofs.YthncochjhbmceaaGreat
set_option maxRecDepth 100000
open Go.RowKit

/-! rising lists -/
def rising (E : List Int) : Prop := E.Pairwise (· < ·)
def geL (n : Int) (E : List Int) : List Int := E.filter fun x => decide (n ≤ x)
theorem mem_geL {n x : Int} {E : List Int} : x ∈ geL n E ↔ x ∈ E ∧ n ≤ x := by simp [geL]
theorem rising_geL {E : List Int} (h : rising E) (n : Int) : rising (geL n E) := List.Pairwise.filter _ h
theorem geL_geL (n m : Int) (E : List Int) : geL n (geL m E) = geL (max n m) E := by
  simp only [geL, List.filter_filter]
  congr 1
  funext x
  rw [← Bool.decide_and]
  exact decide_eq_decide.2 (by omega)
theorem geL_all {n : Int} {E : List Int} (h : ∀ x ∈ E, n ≤ x) : geL n E = E := List.filter_eq_self.2 fun x hx => by simpa using h x hx
theorem geL_nil (n : Int) : geL n [] = [] := rfl
theorem rising_ext : ∀ {E D : List Int}, rising E → rising D → (∀ x, x ∈ E ↔ x ∈ D) → E = D
  | [], [], _, _, _ => rfl
  | [], d :: D, _, _, h => absurd ((h d).2 (by simp)) (by simp)
  | e :: E, [], _, _, h => absurd ((h e).1 (by simp)) (by simp)
  | e :: E, d :: D, hE, hD, h => by
    obtain ⟨h1, h2⟩ := List.pairwise_cons.1 hE
    obtain ⟨k1, k2⟩ := List.pairwise_cons.1 hD
    have hed : e = d := by
      have a := (h e).1 (by simp)
      have b := (h d).2 (by simp)
      rcases List.mem_cons.1 a with a | a
      · exact a
      · rcases List.mem_cons.1 b with b | b
        · exact b.symm
        · have := k1 e a; have := h1 d b; omega
    subst hed
    congr 1
    refine rising_ext h2 k2 fun x => ⟨fun hx => ?_, fun hx => ?_⟩
    · rcases List.mem_cons.1 ((h x).1 (List.mem_cons_of_mem _ hx)) with e1 | e1
      · have := h1 x hx; omega
      · exact e1
    · rcases List.mem_cons.1 ((h x).2 (List.mem_cons_of_mem _ hx)) with e1 | e1
      · have := k1 x hx; omega
      · exact e1
/-- the answer of a list's first number -/
def ansL : List Int → Ending
  | [] => .returned (.tuple #[.int .i64 0, .bool false])
  | x :: _ => .returned (.tuple #[.int .i64 x, .bool true])
def inI (n : Int) : Prop := -9223372036854775808 ≤ n ∧ n ≤ 9223372036854775807

/-! only the blocks of a set, and what is new, may have turned -/
structure Kp (F : Nat → Prop) (a w : World) : Prop where
  os : w.os = a.os
  tape : w.tape = a.tape
  output : w.output = a.output
  size : a.heap.size ≤ w.heap.size
  block : ∀ k, k < a.heap.size → ¬ F k → w.heap[k]? = a.heap[k]?
section
variable {F G : Nat → Prop} {a b c w w' : World}
theorem Kp.refl (F : Nat → Prop) (w : World) : Kp F w w := ⟨rfl, rfl, rfl, Nat.le_refl _, fun _ _ _ => rfl⟩
theorem Kp.trans (h : Kp F a b) (k : Kp F b c) : Kp F a c :=
  ⟨k.os.trans h.os, k.tape.trans h.tape, k.output.trans h.output, Nat.le_trans h.size k.size, fun i hi hn => (k.block i (Nat.lt_of_lt_of_le hi h.size) hn).trans (h.block i hi hn)⟩
theorem Kp.wider (h : Kp F a b) (k : ∀ i, F i → G i) : Kp G a b := ⟨h.os, h.tape, h.output, h.size, fun i hi hn => h.block i hi fun e => hn (k i e)⟩
theorem Kp.of_below (h : Below a.heap.size a w) (F : Nat → Prop) : Kp F a w := ⟨h.os, h.tape, h.output, h.size, fun i hi _ => h.block i hi⟩
theorem Kp.drew (h : Kp F a w) : Kp F a w.drew := ⟨h.os, h.tape, h.output, h.size, h.block⟩
theorem Kp.drewN (h : Kp F a w) (n : Nat) : Kp F a (w.drewN n) := ⟨h.os, h.tape, h.output, h.size, h.block⟩
theorem Kp.alloc (h : Kp F a w) (o : Obj) : Kp F a (w.alloc o) := h.trans ⟨rfl, rfl, rfl, by simp, fun i hi _ => Below.heap_alloc w o i hi⟩
theorem Kp.put (h : Kp F a w) {g : Nat} (hg : F g) (i : Nat) (u : Value) : Kp F a (w.setCell ⟨g, i, none⟩ u) :=
  h.trans ⟨rfl, rfl, rfl, by simp, fun k _ hk => Below.heap_setCell w _ u k (fun e => hk (by rw [e]; exact hg))⟩
theorem Kp.below {B : Nat} (h : Kp F a w) (hF : ∀ k, F k → B ≤ k) (hB : B ≤ a.heap.size) : Below B a w := ⟨h.os, h.tape, h.output, h.size, fun k hk => h.block k (by omega) fun e => by have := hF k e; omega⟩
end

/-! how it lies -/
theorem Row.keep1 {w w' : World} {B B' size n : Nat} {A : Option Addr} {xs : List Value} (h : Row w B size A n xs) (hB : B ≤ B') (hk : 0 < n → ∀ g o, A = some ⟨g, o, none⟩ → w'.heap[g]? = w.heap[g]?) : Row w' B' size A n xs :=
  ⟨h.len, fun hn => by
    obtain ⟨g, o, e, hb, hc⟩ := h.at_ hn
    exact ⟨g, o, e, by omega, fun j hj => (World.cell?_of_block (w := w) (a := ⟨g, o + j, none⟩) (hk hn g o e)).trans (hc j hj)⟩⟩
/-- the block that a row's address is of -/
def blockOf (A : Option Addr) (k : Nat) : Prop := ∃ o, A = some ⟨k, o, none⟩
def Src := World → Value → List Int → (Nat → Prop) → Prop
def IsList : Src := fun w v E F => ∃ lb A n c, v = .iface 300 (.pointer (some ⟨lb, 0, none⟩)) ∧ Whole1 w lb 302 #[.slice A n c] ∧ Row w w.heap.size 1 A n (E.map (Value.int .i64)) ∧ n ≤ c ∧ n * 8 ≤ 140737488355328 ∧ (0 < n → ¬ blockOf A lb) ∧ (F lb ∧ ∀ k, 0 < n → blockOf A k → F k) ∧ rising E ∧ (∀ x ∈ E, inI x) ∧ ∀ k, F k → k < w.heap.size
def CurOf (S : Src) : Src := fun w p E F =>
  (p = .pointer none ∧ E = [] ∧ ∀ k, ¬ F k) ∨
  ∃ b v fr dn E0 F0, p = .pointer (some ⟨b, 0, none⟩) ∧ Whole1 w b 309 #[v, .int .i64 fr, .bool dn] ∧ ¬ F0 b ∧ S w v E0 F0 ∧ inI fr ∧ (∀ k, F k ↔ k = b ∨ F0 k) ∧ E = if dn = true then [] else geL fr E0
/-- a cursor among others: its pointer, its list, its blocks -/
structure Kid where
  p : Value
  E : List Int
  F : Nat → Prop
def Kids (S : Src) (w : World) (A : Option Addr) (cs : List Kid) (F : Nat → Prop) : Prop :=
  Row w w.heap.size 1 A cs.length (cs.map Kid.p) ∧ (∀ x ∈ cs, CurOf S w x.p x.E x.F) ∧ (cs.Pairwise fun x y => ∀ k, ¬ (x.F k ∧ y.F k)) ∧ (∀ x ∈ cs, ∀ k, x.F k → ¬ blockOf A k) ∧ ((∀ k, cs ≠ [] → blockOf A k → F k) ∧ ∀ x ∈ cs, ∀ k, x.F k → F k) ∧ ∀ k, F k → k < w.heap.size
def IsAnd (S : Src) : Src := fun w v E F => ∃ A n c cs, v = .iface 255 (.slice A n c) ∧ cs.length = n ∧ n ≤ 4611686018427387904 ∧ Kids S w A cs F ∧ rising E ∧ ∀ x, x ∈ E ↔ cs ≠ [] ∧ ∀ y ∈ cs, x ∈ y.E
def IsOr (S : Src) : Src := fun w v E F => ∃ A n c cs, v = .iface 305 (.slice A n c) ∧ cs.length = n ∧ n ≤ 4611686018427387904 ∧ Kids S w A cs F ∧ rising E ∧ ∀ x, x ∈ E ↔ ∃ y ∈ cs, x ∈ y.E
def IsWo (S : Src) : Src := fun w v E F => ∃ x y : Kid, v = .iface 304 (.agg #[x.p, y.p]) ∧ CurOf S w x.p x.E x.F ∧ CurOf S w y.p y.E y.F ∧ (∀ k, ¬ (x.F k ∧ y.F k)) ∧ (∀ k, F k ↔ x.F k ∨ y.F k) ∧ rising E ∧ ∀ z, z ∈ E ↔ z ∈ x.E ∧ z ∉ y.E
def IsSrc : Nat → Src
  | 0 => IsList
  | d + 1 => fun w v E F => IsList w v E F ∨ IsAnd (IsSrc d) w v E F ∨ IsOr (IsSrc d) w v E F ∨ IsWo (IsSrc d) w v E F

/-! what a source's blocks bear is all that it asks -/
def FrameOk (S : Src) : Prop := ∀ w w' v E F, S w v E F → w.heap.size ≤ w'.heap.size → (∀ k, F k → w'.heap[k]? = w.heap[k]?) → S w' v E F
def RiseOk (S : Src) : Prop := ∀ w v E F, S w v E F → rising E ∧ ∀ x ∈ E, inI x
theorem whole_keep {w w' : World} {g : Nat} {t : TypeId} {cs : Array Value} (h : Whole1 w g t cs) (k : w'.heap[g]? = w.heap[g]?) : Whole1 w' g t cs := k.trans h
theorem list_frame : FrameOk IsList := by
  rintro w w' v E F ⟨lb, A, n, c, rfl, h1, h2, h3, h4, h5, h6, h7, h8, h9⟩ hs hk
  refine ⟨lb, A, n, c, rfl, whole_keep h1 (hk lb h6.1), h2.keep1 hs fun hn g o e => hk g (h6.2 g hn ⟨o, e⟩), h3, h4, h5, h6, h7, h8, fun k hb => Nat.lt_of_lt_of_le (h9 k hb) hs⟩
theorem cur_frame {S : Src} (h : FrameOk S) : FrameOk (CurOf S) := by
  rintro w w' v E F (h0 | ⟨b, v, fr, dn, E0, F0, rfl, h1, h2, h3, h4, h5, h6⟩) hs hk
  · exact .inl h0
  · exact .inr ⟨b, v, fr, dn, E0, F0, rfl, whole_keep h1 (hk b ((h5 b).2 (.inl rfl))), h2, h _ _ _ _ _ h3 hs fun k hF => hk k ((h5 k).2 (.inr hF)), h4, h5, h6⟩
theorem kids_frame {S : Src} (h : FrameOk S) {w w' : World} {A : Option Addr} {cs : List Kid} {F : Nat → Prop} (hK : Kids S w A cs F) (hs : w.heap.size ≤ w'.heap.size) (hk : ∀ k, F k → w'.heap[k]? = w.heap[k]?) : Kids S w' A cs F := by
  obtain ⟨h1, h2, h3, h4, h5, h6⟩ := hK
  exact ⟨h1.keep1 hs fun hn g o e => hk g (h5.1 g (fun e => by rw [e] at hn; simp at hn) ⟨o, e⟩), fun x hx => cur_frame h _ _ _ _ _ (h2 x hx) hs fun k hF => hk k (h5.2 x hx k hF), h3, h4, h5, fun k hb => Nat.lt_of_lt_of_le (h6 k hb) hs⟩
theorem src_frame : ∀ d, FrameOk (IsSrc d)
  | 0 => list_frame
  | d + 1 => by
    rintro w w' v E F (h | ⟨A, n, c, cs, rfl, h1, h2, h3, h4, h5⟩ | ⟨A, n, c, cs, rfl, h1, h2, h3, h4, h5⟩ | ⟨x, y, rfl, h1, h2, h3, h4, h5, h6⟩) hs hk
    · exact .inl (list_frame _ _ _ _ _ h hs hk)
    · exact .inr (.inl ⟨A, n, c, cs, rfl, h1, h2, kids_frame (src_frame d) h3 hs hk, h4, h5⟩)
    · exact .inr (.inr (.inl ⟨A, n, c, cs, rfl, h1, h2, kids_frame (src_frame d) h3 hs hk, h4, h5⟩))
    · exact .inr (.inr (.inr ⟨x, y, rfl, cur_frame (src_frame d) _ _ _ _ _ h1 hs fun k hF => hk k ((h4 k).2 (.inl hF)), cur_frame (src_frame d) _ _ _ _ _ h2 hs fun k hF => hk k ((h4 k).2 (.inr hF)), h3, h4, h5, h6⟩))
theorem cur_rise {S : Src} (h : RiseOk S) : RiseOk (CurOf S) := by
  rintro w v E F (⟨rfl, rfl, _⟩ | ⟨b, v, fr, dn, E0, F0, rfl, h1, h2, h3, h4, h5, rfl⟩)
  · exact ⟨List.Pairwise.nil, by simp⟩
  · obtain ⟨r1, r2⟩ := h _ _ _ _ h3
    cases dn
    · exact ⟨rising_geL r1 _, fun x hx => r2 x (mem_geL.1 hx).1⟩
    · exact ⟨List.Pairwise.nil, by simp⟩
theorem src_rise : ∀ d, RiseOk (IsSrc d)
  | 0 => by rintro w v E F ⟨lb, A, n, c, rfl, h1, h2, h3, h4, h5, h6, h7, h8, h9⟩; exact ⟨h7, h8⟩
  | d + 1 => by
    rintro w v E F (⟨lb, A, n, c, rfl, h1, h2, h3, h4, h5, h6, h7, h8, h9⟩ | ⟨A, n, c, cs, rfl, h1, h2, h3, h4, h5⟩ | ⟨A, n, c, cs, rfl, h1, h2, h3, h4, h5⟩ | ⟨x, y, rfl, h1, h2, h3, h4, h5, h6⟩)
    · exact ⟨h7, h8⟩
    · refine ⟨h4, fun x hx => ?_⟩
      obtain ⟨hne, hall⟩ := (h5 x).1 hx
      obtain ⟨y, hy⟩ := List.exists_mem_of_ne_nil cs hne
      exact (cur_rise (src_rise d) _ _ _ _ (h3.2.1 y hy)).2 x (hall y hy)
    · refine ⟨h4, fun x hx => ?_⟩
      obtain ⟨y, hy, hxy⟩ := (h5 x).1 hx
      exact (cur_rise (src_rise d) _ _ _ _ (h3.2.1 y hy)).2 x hxy
    · exact ⟨h5, fun z hz => (cur_rise (src_rise d) _ _ _ _ h1).2 z ((h6 z).1 hz).1⟩
def OldOk (S : Src) : Prop := ∀ w v E F, S w v E F → ∀ k, F k → k < w.heap.size
theorem cur_old {S : Src} (h : OldOk S) : OldOk (CurOf S) := by
  rintro w v E F (⟨rfl, rfl, h0⟩ | ⟨b, v, fr, dn, E0, F0, rfl, h1, h2, h3, h4, h5, rfl⟩) k hk
  · exact absurd hk (h0 k)
  · rcases (h5 k).1 hk with rfl | hk
    · exact h1.lt
    · exact h _ _ _ _ h3 k hk
theorem kids_old {S : Src} {w : World} {A : Option Addr} {cs : List Kid} {F : Nat → Prop} (hK : Kids S w A cs F) : ∀ k, F k → k < w.heap.size := fun k hk => by
  exact hK.2.2.2.2.2 k hk
theorem src_old : ∀ d, OldOk (IsSrc d)
  | 0 => by
    rintro w v E F ⟨lb, A, n, c, rfl, h1, h2, h3, h4, h5, h6, h7, h8, h9⟩ k hk
    exact h9 k hk
  | d + 1 => by
    rintro w v E F (⟨lb, A, n, c, rfl, h1, h2, h3, h4, h5, h6, h7, h8, h9⟩ | ⟨A, n, c, cs, rfl, h1, h2, h3, h4, h5⟩ | ⟨A, n, c, cs, rfl, h1, h2, h3, h4, h5⟩ | ⟨x, y, rfl, h1, h2, h3, h4, h5, h6⟩) k hk
    · exact h9 k hk
    · exact kids_old h3 k hk
    · exact kids_old h3 k hk
    · rcases (h4 k).1 hk with hk | hk
      · exact cur_old (src_old d) _ _ _ _ h1 k hk
      · exact cur_old (src_old d) _ _ _ _ h2 k hk
/-- one of the kids was asked -/
theorem kids_step {S : Src} (hF : FrameOk S) (hO : OldOk S) {w w' : World} {A : Option Addr} {cs : List Kid} {F : Nat → Prop} (hK : Kids S w A cs F) {j : Nat} {x : Kid} (hx : cs[j]? = some x) {E' : List Int} (h : CurOf S w' x.p E' x.F) (hk : Kp x.F w w') :
    Kids S w' A (cs.set j ⟨x.p, E', x.F⟩) F ∧ Kp F w w' := by
  obtain ⟨h1, h2, h3, h4, h5, h6⟩ := hK
  have hxm := List.mem_of_getElem? hx
  obtain ⟨hj, hxe⟩ := List.getElem?_eq_some_iff.1 hx
  have hmapP : (cs.set j ⟨x.p, E', x.F⟩).map Kid.p = cs.map Kid.p := by
    rw [List.map_set]
    refine List.ext_getElem? fun i => ?_
    by_cases e : i = j
    · subst e; rw [List.getElem?_set_self (by simpa using hj), List.getElem?_map, hx]; rfl
    · rw [List.getElem?_set_ne (fun h => e h.symm)]
  have hmapF : (cs.set j ⟨x.p, E', x.F⟩).map Kid.F = cs.map Kid.F := by
    rw [List.map_set]
    refine List.ext_getElem? fun i => ?_
    by_cases e : i = j
    · subst e; rw [List.getElem?_set_self (by simpa using hj), List.getElem?_map, hx]; rfl
    · rw [List.getElem?_set_ne (fun h => e h.symm)]
  have hmemF : ∀ G : Nat → Prop, G ∈ (cs.set j ⟨x.p, E', x.F⟩).map Kid.F ↔ G ∈ cs.map Kid.F := fun G => by rw [hmapF]
  have hkF : Kp F w w' := hk.wider fun i hi => h5.2 x hxm i hi
  refine ⟨⟨?_, fun y hy => ?_, ?_, fun y hy k hyk => ?_, ⟨fun k hne hb => h5.1 k (fun e => by rw [e] at hj; simp at hj) hb, fun y hy k hyk => ?_⟩, fun k hb => Nat.lt_of_lt_of_le (h6 k hb) hk.size⟩, hkF⟩
  · rw [hmapP, List.length_set]
    exact h1.keep1 hk.size fun _ g o e => hk.block g (h6 g (h5.1 g (fun e => by rw [e] at hj; simp at hj) ⟨o, e⟩)) fun hg => h4 x hxm g hg ⟨o, e⟩
  · obtain ⟨i, hi⟩ := List.mem_iff_getElem?.1 hy
    by_cases e : i = j
    · subst e
      rw [List.getElem?_set_self hj] at hi
      cases hi
      exact h
    · rw [List.getElem?_set_ne (fun h => e h.symm)] at hi
      have hym := List.mem_of_getElem? hi
      refine cur_frame hF _ _ _ _ _ (h2 y hym) hk.size fun k hyk => hk.block k (cur_old hO _ _ _ _ (h2 y hym) k hyk) fun hxk => ?_
      obtain ⟨hil, hie⟩ := List.getElem?_eq_some_iff.1 hi
      have hp := List.pairwise_iff_getElem.1 h3
      rcases Nat.lt_or_gt_of_ne e with hlt | hlt
      · exact hp i j hil hj hlt k ⟨by rw [hie]; exact hyk, by rw [hxe]; exact hxk⟩
      · exact hp j i hj hil hlt k ⟨by rw [hxe]; exact hxk, by rw [hie]; exact hyk⟩
  · have : (cs.map Kid.F).Pairwise fun a b => ∀ k, ¬ (a k ∧ b k) := List.pairwise_map.2 h3
    rw [← hmapF] at this
    exact List.pairwise_map.1 this
  · obtain ⟨z, hz, hzF⟩ := List.mem_map.1 ((hmemF y.F).1 (List.mem_map.2 ⟨y, hy, rfl⟩))
    exact h4 z hz k (by rw [hzF]; exact hyk)
  · obtain ⟨z, hz, hzF⟩ := List.mem_map.1 ((hmemF y.F).1 (List.mem_map.2 ⟨y, hy, rfl⟩))
    exact h5.2 z hz k (by rw [hzF]; exact hyk)
theorem cur_mono {S T : Src} (h : ∀ w v E F, S w v E F → T w v E F) : ∀ w v E F, CurOf S w v E F → CurOf T w v E F := by
  rintro w v E F (h0 | ⟨b, v, fr, dn, E0, F0, rfl, h1, h2, h3, h4, h5, h6⟩)
  · exact .inl h0
  · exact .inr ⟨b, v, fr, dn, E0, F0, rfl, h1, h2, h _ _ _ _ h3, h4, h5, h6⟩
theorem src_up : ∀ d w v E F, IsSrc d w v E F → IsSrc (d + 1) w v E F
  | 0, _, _, _, _, h => .inl h
  | d + 1, w, v, E, F, h => by
    rcases h with h | ⟨A, n, c, cs, rfl, h1, h2, h3, h4, h5⟩ | ⟨A, n, c, cs, rfl, h1, h2, h3, h4, h5⟩ | ⟨x, y, rfl, h1, h2, h3, h4, h5, h6⟩
    · exact .inl h
    · exact .inr (.inl ⟨A, n, c, cs, rfl, h1, h2, ⟨h3.1, fun x hx => cur_mono (src_up d) _ _ _ _ (h3.2.1 x hx), h3.2.2⟩, h4, h5⟩)
    · exact .inr (.inr (.inl ⟨A, n, c, cs, rfl, h1, h2, ⟨h3.1, fun x hx => cur_mono (src_up d) _ _ _ _ (h3.2.1 x hx), h3.2.2⟩, h4, h5⟩))
    · exact .inr (.inr (.inr ⟨x, y, rfl, cur_mono (src_up d) _ _ _ _ h1, cur_mono (src_up d) _ _ _ _ h2, h3, h4, h5, h6⟩))
theorem src_le {d e : Nat} (h : d ≤ e) {w : World} {v : Value} {E : List Int} {F : Nat → Prop} (hs : IsSrc d w v E F) : IsSrc e w v E F := by
  induction h with
  | refl => exact hs
  | step _ ih => exact src_up _ _ _ _ _ ih
end Go.Proofs.YthncochjhbmceaaGreat
