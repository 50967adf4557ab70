/- index.Add's middle, walked in two. Condition: the index is one; the rows are within the reach. -/
import Derived.Test.YthncochjhbmceaaGreatPkb025935b
import Derived.Deep.CutBlock
import Derived.Deep.RegionHeld3
namespace Go.Proofs.YthncochjhbmceaaGreat
set_option maxRecDepth 100000
open Go.RowKit

theorem infoLs : (Tryz.prog.info? 61).map (fun i => (i.zero, i.size, i.bytes)) = some (some (.slice none 0 0), 1, 24) := by kernel_rfl
theorem zero_mm (w : World) : (zeroValue 186).run Tryz.prog w = .ok (.map none) w := by
  have h : (Tryz.prog.info? 186).map (fun i => i.zero) = some (some (.map none)) := by kernel_rfl
  obtain ⟨i, h1, h2⟩ := Option.map_eq_some_iff.1 h
  simp [zeroValue, typeInfo, h1, h2]
theorem zero_is (w : World) : (zeroValue 127).run Tryz.prog w = .ok (.slice none 0 0) w := by
  have h : (Tryz.prog.info? 127).map (fun i => i.zero) = some (some (.slice none 0 0)) := by kernel_rfl
  obtain ⟨i, h1, h2⟩ := Option.map_eq_some_iff.1 h
  simp [zeroValue, typeInfo, h1, h2]
theorem infoI : (Tryz.prog.info? 3).map (fun i => (i.zero, i.size, i.bytes)) = some (some (.int .i64 0), 1, 8) := by kernel_rfl
theorem eql_map (b : Option Nat) (w : World) : (binOp .eql 186 (.map b) (.map none)).run Tryz.prog w = .ok (.bool b.isNone) w := by
  have h : ∀ d : Nat, (Op.equalIn (d + 1) 186 (.map b) (.map none)).run Tryz.prog w = .ok b.isNone w := fun d => by
    cases b <;> simp [Op.equalIn, run_underlying Tryz.underlying186]
  simp only [binOp]
  simp [Op.equal, Op.maxDepth, h 9999]
theorem mk92m (w : World) : (Instr.makeMap 186 none).run Tryz.prog w = .ok (.map (some w.heap.size)) (w.alloc (.map #[] 0)) := by simp [Instr.makeMap, Result.andThen]
set_option maxHeartbeats 12800000 in
theorem idx_add (A : Option Addr) (n c : Nat) (l : List Lbl) (w : World) {base p : Nat} {E : List (List Lbl)} (h : Idx w base p E) (hT : LbT w A n l) (hnc : n ≤ c) (hb : base ≤ w.heap.size) (hE : E.length ≤ 1048576) :
    Calls Tryz.prog 30 #[.pointer (some ⟨p, 0, none⟩), .slice A n c] w fun e w' => e = .returned (.tuple #[.int .i64 (addE E l).1.1, .bool (addE E l).1.2.1, .int .i64 (addE E l).1.2.2]) ∧ Idx w' base p (addE E l).2 ∧ Turn base [172, 61, 3] true w w' := by
  have hl := hT.f
  have S1 := hidden (lenc_any A n c l w hl hnc)
  have hval := h.valid
  have H := hidden h
  have HL := hidden hT
  clear hT
  by_cases hv : validP l
  · have e2 : (encLb l).2 = 0 := enc_fit.2 hv
    cases hat : atE E l with
    | some i =>
      have eA : addE E l = ((((i : Nat) : Int), false, 0), E) := by
        unfold addE
        rw [if_neg (by rw [e2]; simp), hat]
      rw [eA]
      rw [e2] at S1
      have HAT := hidden hat
      clear h hl hat eA
      go_enter Tryz.func30, Tryz.ntmps30
      go_wp2_with fail
      refine S1.out.mono ?_
      rintro e w1 ⟨rfl, b1⟩
      have h1 := H.out.below b1
      have HI := hidden h1
      obtain ⟨sv, L, bn, bl, mn, ml, oM, oI, h1, rfl⟩ := h1
      have c1 := h1.b.blk.cell 1
      have hat := h1.at_ hv
      have hL := h1.b.num.look keyStr h1.b.num.strs Tryz.underlying168 (zero_i w1) (key := .string (encLb l).1) ⟨_, rfl⟩ true
      simp only [if_true] at hL
      rw [hat, HAT.out] at hL
      simp only [Option.map_some, Option.getD_some, Option.isSome_some] at hL
      generalize (encLb l).1 = key at *
      clear hat h1 S1
      go_wp2_with fail
      go_ret3
      exact ⟨rfl, HI.out, Turn.of_below b1 _ _ _⟩
    | none =>
      have eA : addE E l = (((E.length : Int), true, 0), E ++ [l]) := by
        unfold addE
        rw [if_neg (by rw [e2]; simp), hat]
      rw [eA]
      rw [e2] at S1
      have HAT := hidden hat
      clear h hl hat eA
      go_enter Tryz.func30, Tryz.ntmps30
      go_wp2_with fail
      refine S1.out.mono ?_
      rintro e w1 ⟨rfl, b1⟩
      have h1 := H.out.below b1
      have HL1 := hidden (HL.out.below b1)
      have hbw1 : base ≤ w1.heap.size := by have := b1.size; omega
      obtain ⟨sv, L, bn, bl, mn, ml, oM, oI, h1, rfl⟩ := h1
      obtain ⟨As, cs, rfl, hcs, _⟩ := own_shape h1.b.sets
      have c0 := h1.b.blk.cell 0
      have c1 := h1.b.blk.cell 1
      have hat := h1.at_ hv
      have hL := h1.b.num.look keyStr h1.b.num.strs Tryz.underlying168 (zero_i w1) (key := .string (encLb l).1) ⟨_, rfl⟩ true
      simp only [if_true] at hL
      rw [hat, HAT.out] at hL
      simp only [Option.map_none, Option.getD_none, Option.isSome_none] at hL
      obtain ⟨w2, hrun, hm2, hg2, hz2⟩ := h1.b.num.store (P := Tryz.prog) keyStr h1.b.num.strs Tryz.underlying168 (key := .string (encLb l).1) ⟨_, rfl⟩ ⟨_, rfl⟩ (.int .i64 (L.length : Nat))
      have H1 := hidden h1
      have HM2 := hidden hm2
      have HG2 := hidden hg2
      obtain ⟨key, hkey⟩ : ∃ key, (encLb l).1 = key := ⟨_, rfl⟩
      have HKEY := hidden hkey
      rw [hkey] at hL hrun HM2 ⊢
      have hLc := h1.b.sets.1
      rw [List.length_map] at hE
      clear hat h1 S1 hm2 hg2 hkey
      obtain ⟨mn2, hmn2⟩ : ∃ mn2, putV mn (.string key) (.int .i64 (L.length : Nat)) = mn2 := ⟨_, rfl⟩
      rw [hmn2] at HM2
      have HMN := hidden hmn2
      have k2 : Turn 0 [] true w1 w2 := Turn.of_map H1.out.b.num (Nat.zero_le _) HG2.out
      have k2b : Turn base [] true w1 w2 := Turn.of_map H1.out.b.num H1.out.b.nb HG2.out
      have hB2 : IdxB w2 base p (.slice As L.length cs) L bn bl mn2 := ⟨k2.whole H1.out.b.blk (.inr (by simp)), H1.out.b.pb, k2.own H1.out.b.sets (.inl (by simp)), fun s hs => k2.own (H1.out.b.lab s hs) (.inl (by simp)), HM2.out, H1.out.b.nb, H1.out.b.ne⟩
      have hli2 := H1.out.lists.store H1.out.b.num HG2.out H1.out.b.ne H1.out.noM
      have HLI := hidden hli2
      have HL2 := hidden (HL1.out.turn k2 (by simp))
      have hb12 : Below w.heap.size w w1 := b1
      have hw2s : base ≤ w2.heap.size := by omega
      have HB2 := hidden hB2
      have HK2 := hidden (Turn.trans (Turn.of_below b1 base [172, 61, 3] true) (k2b.wider (Nat.le_refl _) (by simp) id))
      go_upto_region 11 with (fail)
      clear hL hrun c0 c1 k2 k2b hli2 hB2 hmn2 hb12 HG2
      go_cut [] (fun wx => ∃ sv nv, Hid (AddI w wx base p sv (L ++ [⟨nv, l⟩]) bn bl mn2 (flatE (L.map SetR.l))) ∧ Hid (LbT wx A n l))
      case first =>
        obtain ⟨i0, hi, hz0, hz1, hz2⟩ := info_parts infoLs
        have e0 := HB2.out.blk.cell 0
        have hlen := HL2.out.f.len
        have hfit := HL2.out.f.fit
        have SC := hidden (ClnLbl.cloneO_any A n c l w2.drew (HL2.out.below (Below.refl _ _).drew).f.row hlen (by omega))
        go_region_law (first
          | (go_simp; go_at_call 32; refine SC.out.mono ?_; rintro e w3 ⟨⟨zA, zn, zc, zl⟩, rfl, _, _, _, _, b3, ho3⟩; simp only [Sl.val] at ho3 ⊢; have HO3 := hidden (ho3 (by have := valid_pos hv; omega)); have hB3 := (HB2.out.turn (Turn.of_below ((Below.refl _ _).drew.trans b3) base [] false) (by simp) (by simp) (by simp)); have q0 := hB3.blk.cell 0; have q0a := (hB3.blk.alloc (.cells #[.slice zA zn zc] 61)).cell 0; have T := fun (ops : Array Oper) (o : Oper) (a : Act) (K : Act → World → Prop) (Q : Exit → Act → World → Prop) (E : Prop) (hg : o.guard = none) (s1 s2 : Operand) (ho : o.op = .call { callee := .builtin .append, args := #[s1, s2], argTypes := #[170, 170] }) (hs : a.eval s1 = .slice As L.length cs) (hx : a.eval s2 = .slice (some ⟨w3.heap.size, 0, none⟩) 1 1) h => step_appA (P := Tryz.prog) (ops := ops) (o := o) (a := a) (K := K) (Q := Q) (E := E) (w3.alloc (.cells #[.slice zA zn zc] 61)) hg s1 s2 170 ho base 61 i0 _ 1 24 Tryz.underlying170 hi hz0 hz1 hz2 rfl (by decide) _ _ _ hs (hB3.sets.alloc _) _ _ _ _ _ hx (Row.fresh w3 61 1 1 [.slice zA zn zc] rfl) (by simp [Value.oneCell']) (by unfold maxLen; omega) (by omega) (by rw [World.size_alloc]; have := b3.size; have e3 : w2.drew.heap.size = w2.heap.size := rfl; omega) h)
          | (refine T _ _ _ _ _ _ rfl _ _ rfl rfl rfl ?_; intro v10 w10 hown10 hg10 hat10; obtain ⟨A10, c10, rfl, hc10, _⟩ := own_shape hown10; obtain ⟨hp10, hIB, hIT⟩ := HB2.out.grown hw2s (((Below.refl w2.heap.size w2).drew.trans b3).alloc (by have := b3.size; exact this) (.cells #[.slice zA zn zc] 61)) (by rw [show l.length = n from hlen]; exact HO3.out.alloc _) hown10 hg10; have HP10 := hidden hp10; have r0 := hp10.cell 0; have f0 := hp10.free 0; have HIB := hidden hIB; have HIT := hidden hIT))
        all_goals
          go_wp2_with fail
          go_meet
          exact ⟨_, _, hidden ⟨HIB.out, ⟨ml, oM, oI, HLI.out.turn HIT.out (by decide), H1.out.noM⟩, HK2.out.trans (HIT.out.wider (Nat.le_refl _) (by simp) (by simp))⟩, hidden (HL2.out.turn HIT.out (by decide))⟩
      case rest =>
        obtain ⟨sv, nv, hA, hLb⟩ := hcut
        have HVX := hidden hv
        clear HB2 HLI HL2 HK2 HM2 HL1
        go_wp2_with fail
        go_loopw [59] (fun vi wr => ∃ k : Nat, vi = .int .i64 (k : Int) ∧ k ≤ n ∧ Hid (AddI w wr base p sv (L ++ [⟨nv, l⟩]) bn bl mn2 (flatE (L.map SetR.l) ++ (l.take k).map fun z => (((L.length : Nat) : Int), z))) ∧ Hid (LbT wr A n l)) (fun vi _ => n - (intOf vi).toNat)
        case atStart => exact ⟨0, rfl, Nat.zero_le _, hidden (by simpa using hA.out), hLb⟩
        case round =>
          obtain ⟨k, rfl, hk, hI, hT⟩ := hrel
          have k0 : (0 : Int) ≤ (k : Int) := by omega
          by_cases hlt : k < n
          · have k1 : (k : Int) < (n : Int) := by omega
            have HLT := hidden (show k + 1 ≤ n from hlt)
            obtain ⟨g, o, x, rfl, hg, hx, c0, c1, hxm⟩ := lb_cells hT.out.f hlt
            have HTX := hidden (take_snoc? hx)
            have fwk : IntKind.i64.wrap ((k : Int) + 1) = (k : Int) + 1 := Go.IntWalk.i64_in _ (by have := hT.out.f.fit; omega)
            obtain ⟨w1, hw1⟩ : ∃ w1, wr.alloc (.cells #[.string x.name, .string x.value] 70) = w1 := ⟨_, rfl⟩
            obtain ⟨X, hX⟩ : ∃ X, wr.heap.size = X := ⟨_, rfl⟩
            have hx1 : Whole1 w1 X 70 #[.string x.name, .string x.value] := by rw [← hX, ← hw1]; exact Whole1.new wr _ _
            have hb1 : Below wr.heap.size wr w1 := hw1 ▸ (Below.refl _ _).alloc (Nat.le_refl _) _
            have HI1 := hidden (hI.out.below hb1)
            have HT1 := hidden (hT.out.below hb1)
            have HX1 := hidden hx1
            have HW := hidden hw1
            have HXX := hidden hX
            obtain ⟨ml1, oM1, oI1, hl1, hoM1⟩ := HI1.out.lists
            have HLs := hidden hl1
            have HOM := hidden hoM1
            clear hx hxm hw1 hx1 hb1 hX hl1 hoM1 hA hLb
            go_upto_region 15 with (fail)
            rw [HXX.out, HW.out]
            clear c0 c1
            have d0 := HX1.out.cell 0
            have d1 := HX1.out.cell 1
            have p2 := HI1.out.b.blk.cell 2
            have hlook := (HLs.out.map.kept (w' := w1.drew) rfl).look keyStr (HLs.out.map.kept (w' := w1.drew) rfl).strs Tryz.underlying169 (zero_mm w1.drew) (key := .string x.name) ⟨_, rfl⟩ false
            simp only [Bool.false_eq_true, if_false] at hlook
            have heq0 : ∀ w, (binOp .eql 186 (.map none) (.map none)).run Tryz.prog w = .ok (.bool true) w := eql_map none
            have heq1 : ∀ (b : Nat) (w : World), (binOp .eql 186 (.map (some b)) (.map none)).run Tryz.prog w = .ok (.bool false) w := fun b => eql_map (some b)
            go_cut [70] (fun vq wx => vq = .bool (atV ml1 (.string x.name)).isNone ∧ wx = w1.drew)
            case first =>
              cases hat1 : atV ml1 (.string x.name) with
              | none =>
                rw [hat1] at hlook
                simp only [Option.getD_none] at hlook
                go_region
                go_wp2_with fail
                go_meet
                exact ⟨by rw [hat1]; rfl, rfl⟩
              | some vm =>
                obtain ⟨hN, bi, mi, rfl, _⟩ := HLs.out.hit _ _ hat1
                rw [hat1] at hlook
                simp only [Option.getD_some] at hlook
                go_region
                go_wp2_with fail
                go_meet
                exact ⟨by rw [hat1]; rfl, rfl⟩
            case rest =>
              obtain ⟨rfl, rfl⟩ := hcut
              have hdr : Below w1.heap.size w1 w1.drew := (Below.refl _ _).drew
              have HI5 := hidden (HI1.out.below hdr)
              have HL5 := hidden (HLs.out.below hdr)
              have HT5 := hidden (HT1.out.below hdr)
              have HX5 := hidden (HX1.out.below hdr HX1.out.lt)
              have HS5 := hidden (show wr.heap.size ≤ w1.drew.heap.size from by have := HX1.out.lt; have := HXX.out; show wr.heap.size ≤ w1.heap.size; omega)
              clear hlook HI1 HLs HT1 HX1 hdr d0 d1 p2 hI hT
              generalize w1.drew = w5 at *
              go_upto_if 70 with (fail)
              go_cut [] (fun wx => ∃ ml2 oM2 oI2 bi, Hid (IdxB wx base p sv (L ++ [⟨nv, l⟩]) bn bl mn2) ∧ Hid (ListsG wx base bl ml2 oM2 oI2 (fun nm => nameIn (flatE (L.map SetR.l) ++ (l.take k).map fun z => (((L.length : Nat) : Int), z)) nm ∨ nm = x.name) (flatE (L.map SetR.l) ++ (l.take k).map fun z => (((L.length : Nat) : Int), z))) ∧ oM2 bn = none ∧ atV ml2 (.string x.name) = some (.map (some bi)) ∧ Hid (Turn base [172, 61, 3] true w wx) ∧ Hid (LbT wx (some ⟨g, o, none⟩) n l) ∧ Hid (Whole1 wx X 70 #[.string x.name, .string x.value]))
              case first =>
                cases hat1 : atV ml1 (.string x.name) with
                | none =>
                  have d0 := HX5.out.cell 0
                  have p2 := HI5.out.b.blk.cell 2
                  have mk := mk92m
                  have hB6 := HL5.out.below ((Below.refl w5.heap.size w5).drew)
                  obtain ⟨w7, hrun, hm7, hg7, hz7⟩ := (hB6.below ((Below.refl w5.drew.heap.size w5.drew).alloc (Nat.le_refl _) (.map #[] 0))).map.store (P := Tryz.prog) keyStr (hB6.below ((Below.refl w5.drew.heap.size w5.drew).alloc (Nat.le_refl _) (.map #[] 0))).map.strs Tryz.underlying169 (key := .string x.name) ⟨_, rfl⟩ ⟨_, rfl⟩ (.map (some w5.heap.size))
                  have hrun2 : (Instr.mapUpdate 169 (.map (some bl)) (.string x.name) (.map (some w5.heap.size))).run Tryz.prog ((w5.alloc (.map #[] 0)).drew) = .ok () w7 := hrun
                  have p2a : (w5.drew.alloc (.map #[] 0)).cell? ⟨p, 2, none⟩ = some (.map (some bl)) := (HI5.out.b.blk.below (((Below.refl w5.heap.size w5).drew).alloc (Nat.le_refl _) _) HI5.out.b.blk.lt).cell 2
                  have p2b : ((w5.alloc (.map #[] 0)).drew).cell? ⟨p, 2, none⟩ = some (.map (some bl)) := p2a
                  have d0a : (w5.drew.alloc (.map #[] 0)).cell? ⟨X, 0, none⟩ = some (.string x.name) := (HX5.out.below (((Below.refl w5.heap.size w5).drew).alloc (Nat.le_refl _) _) HX5.out.lt).cell 0
                  have d0b : ((w5.alloc (.map #[] 0)).drew).cell? ⟨X, 0, none⟩ = some (.string x.name) := d0a
                  have hB5s : base ≤ w5.drew.heap.size := by have := HS5.out; have := HI5.out.turn.size; show base ≤ w5.heap.size; omega
                  have hmade := hB6.made hat1 hB5s hm7 hg7
                  have hbel : Below w5.heap.size w5 (w5.drew.alloc (.map #[] 0)) := ((Below.refl w5.heap.size w5).drew).alloc (Nat.le_refl _) _
                  have hMp := (hB6.below ((Below.refl w5.drew.heap.size w5.drew).alloc (Nat.le_refl _) (.map #[] 0))).map
                  have hb7 := (HI5.out.b.turn (Turn.of_below hbel base [] false) (by simp) (by simp) (by simp)).store hMp hg7 (Ne.symm HI5.out.b.ne)
                  have t7 : Turn base [] true (w5.drew.alloc (.map #[] 0)) w7 := Turn.of_map hMp HL5.out.old hg7
                  have HF := hidden (And.intro hb7 (And.intro hmade (And.intro (HI5.out.turn.trans ((Turn.of_below hbel base [172, 61, 3] true).trans (t7.wider (Nat.le_refl _) (by simp) id))) (And.intro ((HT5.out.below hbel).turn t7 (by simp)) (t7.whole (HX5.out.below hbel HX5.out.lt) (.inr (by simp)))))))
                  have hbn : bn ≠ w5.heap.size := by have := HI5.out.b.num.lt; omega
                  clear hB6 hm7 hg7 hz7 hmade hMp hb7 t7 hbel
                  go_wp2_with fail
                  go_region
                  all_goals
                    go_wp2_with fail
                    go_meet
                    exact ⟨_, _, _, _, hidden HF.out.1, hidden HF.out.2.1, by show (if bn = w5.heap.size then some x.name else oM1 bn) = none; rw [if_neg hbn]; exact HOM.out, atV_put_same _ _ _, hidden HF.out.2.2.1, hidden HF.out.2.2.2.1, hidden HF.out.2.2.2.2⟩
                | some vm =>
                  obtain ⟨hN, bi, mi, rfl, _⟩ := HL5.out.hit _ _ hat1
                  go_wp2_with fail
                  go_meet
                  exact ⟨ml1, oM1, oI1, bi, hidden HI5.out.b, hidden (HL5.out.iff fun y => ⟨.inl, fun h => h.elim id fun e => by rw [e]; exact hN⟩), HOM.out, hat1, hidden HI5.out.turn, HT5, HX5⟩
              case rest =>
                obtain ⟨ml2, oM2, oI2, bi, hB8, hL8, hoM, hat8, hTu8, hT8, hX8⟩ := hcut
                clear HI5 HL5 HT5 HX5 HOM
                obtain ⟨G, hG⟩ : ∃ G, (flatE (L.map SetR.l) ++ (l.take k).map fun z => (((L.length : Nat) : Int), z)) = G := ⟨_, rfl⟩
                rw [hG] at hL8
                have hGl : G.length ≤ 16777216 := by
                  have h1 := flatE_len (L.map SetR.l) (fun z hz => by exact (makeErr_ok (hval.1 z hz).1).2.1)
                  have h2 := (makeErr_ok HVX.out.1).2.1
                  rw [← hG, List.length_append, List.length_map, List.length_take]
                  rw [List.length_map] at h1
                  omega
                have HGG := hidden hG
                clear hG
                obtain ⟨hNx, bi', mi, e1, hbi, hbne, hoMx, hmi, hIn⟩ := hL8.out.hit _ _ hat8
                obtain rfl : bi = bi' := by simpa using e1
                have hix := ixs_len G x
                have hu := hIn.row x.value
                obtain ⟨u, hu0⟩ : ∃ u, (atV mi (.string x.value)).getD (.slice none 0 0) = u := ⟨_, rfl⟩
                rw [hu0, show (⟨x.name, x.value⟩ : Lbl) = x from rfl] at hu
                obtain ⟨iu, hiu⟩ : ∃ iu, (ixs G x).length = iu := ⟨_, rfl⟩
                rw [hiu] at hu hix
                obtain ⟨Au, cu, rfl, hcu, _⟩ := own_shape hu
                obtain ⟨i0, hi, hz0, hz1, hz2⟩ := info_parts infoI
                obtain ⟨W1, hW1⟩ : ∃ W1, wc.drew.alloc (.cells #[.int .i64 (L.length : Nat)] 3) = W1 := ⟨_, rfl⟩
                have hbel : Below wc.heap.size wc W1 := hW1 ▸ ((Below.refl wc.heap.size wc).drew).alloc (Nat.le_refl _) _
                have hdr : Below wc.heap.size wc wc.drew := (Below.refl _ _).drew
                have hfr := Row.fresh wc.drew 3 1 1 [.int .i64 (L.length : Nat)] rfl
                rw [hW1] at hfr
                have p2 := (hB8.out.blk.below hdr hB8.out.blk.lt).cell 2
                have p2a := (hB8.out.blk.below hbel hB8.out.blk.lt).cell 2
                have d0 := (hX8.out.below hdr hX8.out.lt).cell 0
                have d0a := (hX8.out.below hbel hX8.out.lt).cell 0
                have d1 := (hX8.out.below hdr hX8.out.lt).cell 1
                have d1a := (hX8.out.below hbel hX8.out.lt).cell 1
                have lk := (hL8.out.below hdr).map.look keyStr (hL8.out.below hdr).map.strs Tryz.underlying169 (zero_mm wc.drew) (key := .string x.name) ⟨_, rfl⟩ false
                have lka := (hL8.out.below hbel).map.look keyStr (hL8.out.below hbel).map.strs Tryz.underlying169 (zero_mm W1) (key := .string x.name) ⟨_, rfl⟩ false
                simp only [Bool.false_eq_true, if_false, hat8, Option.getD_some] at lk lka
                have hmd := hmi.kept (hdr.block bi hmi.lt)
                have hma := hmi.kept (hbel.block bi hmi.lt)
                have li := hmd.look keyStr hmd.strs Tryz.underlying186 (zero_is wc.drew) (key := .string x.value) ⟨_, rfl⟩ false
                have lia := hma.look keyStr hma.strs Tryz.underlying186 (zero_is W1) (key := .string x.value) ⟨_, rfl⟩ false
                simp only [Bool.false_eq_true, if_false, hu0] at li lia
                have hua : W1.ownsRow base 3 1 (.slice Au iu cu) iu ((ixs G x).map (Value.int .i64)) := own_below hu hbel (Nat.le_refl _)
                have hbs : base ≤ W1.heap.size := by have := hbel.size; have := hB8.out.blk.lt; have := hB8.out.pb; omega
                have HBX := hidden (And.intro hbi (And.intro hbne (And.intro hoMx (And.intro hmi hma))))
                have HIU := hidden hiu
                have HU0 := hidden hu0
                have HUA := hidden hua
                have HBS := hidden hbs
                have T := fun (ops : Array Oper) (oo : Oper) (a : Act) (K : Act → World → Prop) (Q : Exit → Act → World → Prop) (E : Prop) (hg : oo.guard = none) (s1 s2 : Operand) (ho : oo.op = .call { callee := .builtin .append, args := #[s1, s2], argTypes := #[127, 127] }) (hs : a.eval s1 = .slice Au iu cu) (hx : a.eval s2 = .slice (some ⟨wc.drew.heap.size, 0, none⟩) 1 1) h => step_appA (P := Tryz.prog) (ops := ops) (o := oo) (a := a) (K := K) (Q := Q) (E := E) W1 hg s1 s2 127 ho base 3 i0 _ 1 8 Tryz.underlying127 hi hz0 hz1 hz2 rfl (by decide) _ _ _ hs HUA.out _ _ _ _ _ hx hfr (by simp [Value.oneCell']) (by unfold maxLen; omega) (by omega) HBS.out h
                clear hua hma hmd hmi hIn hbi hbne hoMx hiu hu0 hNx hbs hu hdr
                subst hW1
                have lka2 : (Instr.lookup 169 (.map (some bl)) (.string x.name) false).run Tryz.prog ((wc.alloc (.cells #[.int .i64 (L.length : Nat)] 3)).drew) = .ok (.map (some bi)) ((wc.alloc (.cells #[.int .i64 (L.length : Nat)] 3)).drew) := lka
                have lia2 : (Instr.lookup 186 (.map (some bi)) (.string x.value) false).run Tryz.prog ((wc.alloc (.cells #[.int .i64 (L.length : Nat)] 3)).drew) = .ok (.slice Au iu cu) ((wc.alloc (.cells #[.int .i64 (L.length : Nat)] 3)).drew) := lia
                have p2a2 : ((wc.alloc (.cells #[.int .i64 (L.length : Nat)] 3)).drew).cell? ⟨p, 2, none⟩ = some (.map (some bl)) := p2a
                have d0a2 : ((wc.alloc (.cells #[.int .i64 (L.length : Nat)] 3)).drew).cell? ⟨X, 0, none⟩ = some (.string x.name) := d0a
                have d1a2 : ((wc.alloc (.cells #[.int .i64 (L.length : Nat)] 3)).drew).cell? ⟨X, 1, none⟩ = some (.string x.value) := d1a
                go_wp2_with fail
                have hS0 := And.intro p2 (And.intro d0 d1)
                have hS1 := And.intro p2a (And.intro d0a d1a)
                clear p2 d0 d1 p2a d0a d1a p2a2 d0a2 d1a2
                go_region_held3 (fun w' => w'.cell? ⟨p, 2, none⟩ = some (.map (some bl)) ∧ w'.cell? ⟨X, 0, none⟩ = some (.string x.name) ∧ w'.cell? ⟨X, 1, none⟩ = some (.string x.value))
                  (first | exact hS11 | exact hS10 | exact hS0 | exact hS1)
                  (first | (refine T _ _ _ _ _ _ rfl _ _ rfl rfl rfl ?_; intro v10 w10 hown10 hg10 hat10; obtain ⟨A10, c10, rfl, hc10, _⟩ := own_shape hown10; have t10 : Turn base [3] false _ w10 := Turn.of_own HUA.out (Nat.le_refl _) (by simp) hg10; have m10 := t10.mapV HBX.out.2.2.2.2 (.inr rfl); obtain ⟨w11, hrun, hm11, hg11, hz11⟩ := m10.store (P := Tryz.prog) keyStr m10.strs Tryz.underlying186 (key := .string x.value) ⟨_, rfl⟩ ⟨_, rfl⟩ (.slice A10 (iu + 1) c10); have p2c := (t10.whole (hB8.out.blk.below hbel hB8.out.blk.lt) (.inr (by decide))).cell 2; have d0c := (t10.whole (hX8.out.below hbel hX8.out.lt) (.inr (by decide))).cell 0; have d1c := (t10.whole (hX8.out.below hbel hX8.out.lt) (.inr (by decide))).cell 1; have hl10 := t10.mapV (hL8.out.below hbel).map (.inr rfl); have lkc := hl10.look keyStr hl10.strs Tryz.underlying169 (zero_mm w10) (key := .string x.name) ⟨_, rfl⟩ false; simp only [Bool.false_eq_true, if_false, hat8, Option.getD_some] at lkc; have HST := hidden (AddI.step hB8.out hL8.out (fun _ => Iff.rfl) hoM hat8 hTu8.out HBX.out.2.2.2.1 HBX.out.1 HBX.out.2.2.1 HU0.out hbel HUA.out hown10 hg10 hat10 hm11 hg11); have hS10 := And.intro p2c (And.intro d0c d1c); have hS11 : w11.cell? ⟨p, 2, none⟩ = some (.map (some bl)) ∧ w11.cell? ⟨X, 0, none⟩ = some (.string x.name) ∧ w11.cell? ⟨X, 1, none⟩ = some (.string x.value) := (have t11 : Turn 0 [] true w10 w11 := Turn.of_map m10 (Nat.zero_le _) hg11; ⟨(t11.whole (t10.whole (hB8.out.blk.below hbel hB8.out.blk.lt) (.inr (by decide))) (.inr (by simp))).cell 2, (t11.whole (t10.whole (hX8.out.below hbel hX8.out.lt) (.inr (by decide))) (.inr (by simp))).cell 0, (t11.whole (t10.whole (hX8.out.below hbel hX8.out.lt) (.inr (by decide))) (.inr (by simp))).cell 1⟩); clear hm11 hg11 hz11 hl10 m10 t10 hown10 hg10 hat10 p2c d0c d1c))
                all_goals
                  go_wp2_with fail
                  go_roundw
                  case rel =>
                    refine ⟨k + 1, by go_num, HLT.out, hidden ?_, hidden (HST.out.2 _ _ _ hT8.out)⟩
                    rw [HTX.out, List.map_append, List.map_singleton, ← List.append_assoc, HGG.out]
                    exact HST.out.1
                  case measure => have := HLT.out; simp [intOf]; omega
          · obtain rfl : n = k := by omega
            have HF := hidden (show Idx wr base p (L.map SetR.l ++ [l]) ∧ Turn base [172, 61, 3] true w wr from by
              obtain ⟨hb, ⟨ml', oM', oI', hl', ho'⟩, ht⟩ := hI.out
              rw [List.take_of_length_le (by rw [hT.out.f.len]; exact Nat.le_refl _)] at hl'
              exact ⟨⟨sv, _, bn, bl, mn2, ml', oM', oI', IdxG.added (x := ⟨nv, l⟩) H1.out HVX.out HAT.out (by show mn2 = putV mn (.string (encLb l).1) _; rw [HKEY.out]; exact HMN.out.symm) hb hl' ho', by simp⟩, ht⟩)
            go_wp2_with fail
            go_ret3
            rw [List.length_map]
            exact ⟨rfl, HF.out⟩
  · have e2 : ¬ (encLb l).2 = 0 := fun h => hv (enc_fit.1 h)
    have hne : ((encLb l).2 != 0) = true := by simpa using e2
    have eA : addE E l = ((0, false, (encLb l).2), E) := if_pos e2
    rw [eA]
    generalize (encLb l).2 = er at *
    clear h hl eA
    go_enter Tryz.func30, Tryz.ntmps30
    go_wp2_with fail
    refine S1.out.mono ?_
    rintro e w1 ⟨rfl, b1⟩
    have h1 := hidden (H.out.below b1)
    clear S1
    go_wp2_with fail
    go_ret3
    exact ⟨rfl, h1.out, Turn.of_below b1 _ _ _⟩
end Go.Proofs.YthncochjhbmceaaGreat
