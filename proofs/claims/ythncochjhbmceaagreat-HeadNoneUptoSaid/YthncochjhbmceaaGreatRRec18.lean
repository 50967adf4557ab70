/- The law's helper recordRef (chapter 18) at a record that takes no times away: what it returns. Condition: the record is a plan's. -/
import Derived.Test.YthncochjhbmceaaGreatRPlP
namespace Go.Proofs.YthncochjhbmceaaGreat
set_option maxRecDepth 100000
open Go.RowKit

theorem infoNewR : (Tryz.prog.info? 202).map (fun i => (i.zero, i.size, i.bytes)) = some (some (.agg #[.int .i64 0, .slice none 0 0]), 2, 32) := by kernel_rfl
theorem infoPntR : (Tryz.prog.info? 203).map (fun i => (i.zero, i.size, i.bytes)) = some (some (.agg #[.int .i64 0, .int .i64 0, .int .u64 0]), 3, 24) := by kernel_rfl
theorem nwV_snoc {l : List NewQ} {k : Nat} {x : NewQ} (h : l[k]? = some x) : (l.take (k + 1)).map nwV = (l.take k).map nwV ++ [nwV x] := by rw [take_snoc? h]; simp
set_option maxHeartbeats 12800000 in
theorem recordRef_any (w : World) {base k0 : Nat} {nv pv : Value} {N : List (List Lbl)} {L : List NewQ} {P : List PntR} (hN : NewsO w base k0 nv N L) (hP : w.ownsRow base 115 3 pv P.length (P.flatMap PntR.cells)) (hn : L.length ≤ 2097152) (hp : P.length ≤ 2097152) (hx : ∀ x ∈ L, x.lab.n ≤ 8) :
    Calls Tryz.prog 39 #[.agg #[nv, pv, .slice none 0 0]] w fun e w' => ∃ nv' pv' L', e = .returned (.agg #[nv', pv', .slice none 0 0]) ∧ NewsR w' w.heap.size w.heap.size nv' L' ∧ L'.map nwV = L.map nwV ∧ w'.ownsRow w.heap.size 203 3 pv' P.length (P.flatMap PntR.cells) ∧ Below w.heap.size w w' := by
  obtain ⟨i0, i1, i2, i3, i4⟩ := info_parts infoNewR
  obtain ⟨j0, j1, j2, j3, j4⟩ := info_parts infoPntR
  obtain ⟨nA, nc, rfl, _, _⟩ := own_shape hN.row
  obtain ⟨pA, pc, rfl, _, _⟩ := own_shape hP
  obtain ⟨ln, hln⟩ : ∃ n, L.length = n := ⟨_, rfl⟩
  obtain ⟨pn, hpn⟩ : ∃ n, P.length = n := ⟨_, rfl⟩
  have hb2 : Below w.heap.size w ((w.alloc (.cells #[.slice nA L.length nc, .slice pA P.length pc, .slice none 0 0] 31)).alloc (.cells #[.slice none 0 0, .slice none 0 0, .slice none 0 0] 126)) := ((Below.refl _ _).alloc (Nat.le_refl _) _).alloc (by simp [World.size_alloc]) _
  have hbx := (Whole1.new w 31 #[.slice nA L.length nc, .slice pA P.length pc, .slice none 0 0]).alloc (.cells #[.slice none 0 0, .slice none 0 0, .slice none 0 0] 126)
  have hr0 := Whole1.new (w.alloc (.cells #[.slice nA L.length nc, .slice pA P.length pc, .slice none 0 0] 31)) 126 #[.slice none 0 0, .slice none 0 0, .slice none 0 0]
  rw [World.size_alloc] at hr0
  obtain ⟨w2, hw2⟩ : ∃ w2, (w.alloc (.cells #[.slice nA L.length nc, .slice pA P.length pc, .slice none 0 0] 31)).alloc (.cells #[.slice none 0 0, .slice none 0 0, .slice none 0 0] 126) = w2 := ⟨_, rfl⟩
  have hs2 : w2.heap.size = w.heap.size + 1 + 1 := by rw [← hw2]; simp only [World.size_alloc]
  rw [hw2] at hb2 hbx hr0
  have hR := Whole1.new w2 126 #[.slice none 0 0, .slice none 0 0, .slice none 0 0]
  have HU := hidden (show RecU w2 (w2.alloc (.cells #[.slice none 0 0, .slice none 0 0, .slice none 0 0] 126)) w2.heap.size w2.heap.size (.slice none 0 0) (.slice none 0 0) [] [] from ⟨hR, NewsR.nil, World.ownsRow_nil _ _ _ _, (Below.refl _ _).alloc (Nat.le_refl _) _, Nat.le_refl _⟩)
  obtain ⟨B, hB⟩ : ∃ B, w.heap.size = B := ⟨_, rfl⟩
  have HN := hidden (hN.turn (Turn.of_below hb2 0 [] false) (by simp) (by simp))
  have HP := hidden (own_below hP hb2 (Nat.le_refl _))
  have HX := hidden hx
  have HB2 := hidden hb2
  rw [hB] at hbx hr0 hs2
  rw [hln] at hn hbx hw2
  rw [hpn] at hp hbx hw2
  have HBX := hidden hbx
  have HR0 := hidden hr0
  have HS2 := hidden hs2
  have HW2 := hidden hw2
  have HLN := hidden hln
  have HPN := hidden hpn
  have HBB := hidden hB
  rw [hln, hpn]
  clear hN hP hx hb2 hbx hr0 hs2 hw2 hln hpn hR hB
  go_enter Tryz.func39, Tryz.ntmps39
  go_upto_region 1 with (fail)
  rw [HW2.out, HBB.out]
  obtain ⟨w3, hw3⟩ : ∃ w3, w2.alloc (.cells #[.slice none 0 0, .slice none 0 0, .slice none 0 0] 126) = w3 := ⟨_, rfl⟩
  obtain ⟨R, hRR⟩ : ∃ R, w2.heap.size = R := ⟨_, rfl⟩
  rw [hw3] at HU
  have HRR := hidden hRR
  have HW3 := hidden hw3
  have HBX3 := hidden (fun (W : World) (hW : Below w2.heap.size w2 W) => HBX.out.below hW HBX.out.lt)
  clear hw3 hRR
  have b3 := (HBX3.out w3 HU.out.below).cell 0
  have b31 := (HBX.out.alloc (.cells #[.slice none 0 0, .slice none 0 0, .slice none 0 0] 126)).cell 0
  go_upto_region 3 with (fail)
  rw [HW3.out, HRR.out]
  rw [HRR.out] at HU
  clear b3 b31
  go_loopw [13] (fun vi wr => ∃ (k : Nat) (L' : List NewQ) (nv' : Value), vi = .int .i64 (k : Int) ∧ k ≤ ln ∧ Hid (L'.map nwV = (L.take k).map nwV) ∧ Hid (RecU w2 wr R R nv' (.slice none 0 0) L' [])) (fun vi _ => ln - (intOf vi).toNat)
  case atStart => exact ⟨0, [], _, rfl, Nat.zero_le _, hidden rfl, HU⟩
  case round =>
    obtain ⟨k, L', nv', rfl, hk, hV, hA⟩ := hrel
    have k0 : (0 : Int) ≤ (k : Int) := by omega
    by_cases hlt : k < ln
    · have k1 : (k : Int) < (ln : Int) := by omega
      have fwk : IntKind.i64.wrap ((k : Int) + 1) = (k : Int) + 1 := Go.IntWalk.i64_in _ (by omega)
      have HLT := hidden (show k + 1 ≤ ln from hlt)
      have hNr := HN.out.turn (Turn.of_below hA.out.below 0 [] false) (by simp) (by simp)
      obtain ⟨A', c', e1, _, hrow⟩ := own_shape hNr.row
      injection e1 with e1 _ e2
      subst e1 e2
      obtain ⟨gs, o, x, rfl, _, hx, hcl⟩ := row_at newK hrow rfl k (by rw [HLN.out]; exact hlt)
      have hxm := List.mem_of_getElem? hx
      obtain ⟨hlo, hll⟩ := hNr.labs x hxm
      have h8 := HX.out x hxm
      have HVN := hidden (nwV_snoc hx)
      have c0 := hcl 0 (by omega)
      have c1 := hcl 1 (by omega)
      have hl1 : L'.length = k := by have := congrArg List.length hV.out; rw [List.length_map, List.length_map, List.length_take, HLN.out] at this; omega
      obtain ⟨xr, ⟨xA, xn, xc, xl⟩⟩ := x
      simp only [NewQ.cells, Sl.val, Nat.add_zero, List.getElem?_cons_zero, List.getElem?_cons_succ] at c0 c1 hlo hll h8
      obtain ⟨nA', nc', rfl, _, _⟩ := own_shape hA.out.news.row
      have hb4 : Below wr.heap.size wr (wr.alloc (.cells #[.int .i64 xr, .slice xA xn xc] 113)) := (Below.refl _ _).alloc (Nat.le_refl _) _
      have Y0 := Whole1.new wr 113 #[.int .i64 xr, .slice xA xn xc]
      obtain ⟨w4, hw4⟩ : ∃ w4, wr.alloc (.cells #[.int .i64 xr, .slice xA xn xc] 113) = w4 := ⟨_, rfl⟩
      obtain ⟨Y, hY⟩ : ∃ Y, wr.heap.size = Y := ⟨_, rfl⟩
      rw [hw4] at Y0 hb4
      rw [hY] at Y0
      have HU4 := hidden (hA.out.on hb4)
      have HY4 := hidden Y0
      have hlo4 := own_below hlo hb4 (Nat.le_refl _)
      obtain ⟨xA', xc', e3, _, hlr⟩ := own_shape (own_below hlo4 (Below.refl w4.heap.size w4).drew (Nat.le_refl _))
      injection e3 with e3 _ e4
      subst e3 e4
      have S3 := hidden (labelsRef18_any xA xn xc xl w4.drew hlr hll (by omega))
      have HLL := hidden hll
      have HL1 := hidden hl1
      have HW4 := hidden hw4
      have HYY := hidden hY
      rw [hl1] at HU4
      have hgw := HU4.out.below.size
      clear hNr hrow hx hcl hxm hlo hll hA hb4 Y0 hw4 hY hlo4 hlr h8 hl1
      go_upto_region 5 with (fail)
      rw [HW4.out, HYY.out]
      have y0 := HY4.out.cell 0
      have y1 := HY4.out.cell 1
      have x0 := HU4.out.rec_.cell 0
      clear c0 c1
      go_region_law (first
        | (refine T _ _ _ _ _ _ rfl _ _ rfl rfl rfl ?_; intro v6 w6 hown6 hg6 hat6; obtain ⟨A6, c6, rfl, _, _⟩ := own_shape hown6; obtain ⟨hR6, hU6, _⟩ := HUA.out.newS (x := ⟨xr, ⟨LA, xn, lc, xl⟩⟩) ⟨HLA.out, HLL.out⟩ (by rw [HL1.out]; exact hown6) hg6; have f6 := hR6.free 0; have o6 := hR6.cell 0; have HU6 := hidden hU6; have HV6 := hidden (show (L' ++ [(⟨xr, ⟨LA, xn, lc, xl⟩⟩ : NewQ)]).map nwV = (L.take (k + 1)).map nwV by rw [List.map_append, hV.out, HVN.out]; rfl); clear hR6 hU6 hown6 hg6)
        | (go_simp; go_at_call 24; refine S3.out.mono ?_; rintro e w5 ⟨v5, rfl, hk5, b5⟩; obtain ⟨LA, lc, rfl, _, _⟩ := own_shape hk5; have hb5 : Below w4.heap.size w4 w5 := (Below.refl w4.heap.size w4).drew.trans b5; have HU5 := hidden (HU4.out.on hb5); have o5 := HU5.out.rec_.cell 0; have y5 := (HY4.out.below hb5 HY4.out.lt).cell 0; have HUA := hidden (HU5.out.on ((Below.refl _ _).alloc (Nat.le_refl _) (.cells #[.int .i64 xr, .slice LA xn lc] 202))); have oA := HUA.out.rec_.cell 0; have HLA := hidden ((own_more hk5 (base' := R) (by have := HRR.out; show R ≤ w4.heap.size; omega)).alloc (.cells #[.int .i64 xr, .slice LA xn lc] 202)); have hnr := HUA.out.news.row; rw [HL1.out] at hnr; have hsA := HUA.out.below.size; have T := fun (ops : Array Oper) (o : Oper) (a : Act) (K : Act → World → Prop) (Q : Exit → Act → World → Prop) (E : Prop) (hg : o.guard = none) (s1 s2 : Operand) (ho : o.op = .call { callee := .builtin .append, args := #[s1, s2], argTypes := #[122, 122] }) (hs : a.eval s1 = .slice nA' k nc') (hx : a.eval s2 = .slice (some ⟨w5.heap.size, 0, none⟩) 1 1) h => step_appA (P := Tryz.prog) (ops := ops) (o := o) (a := a) (K := K) (Q := Q) (E := E) (w5.alloc (.cells #[.int .i64 xr, .slice LA xn lc] 202)) hg s1 s2 122 ho w2.heap.size 202 i0 _ 2 32 Tryz.underlying122 i1 i2 i3 i4 rfl (by decide) _ _ _ hs hnr _ _ _ _ _ hx (Row.fresh w5 202 2 1 [.int .i64 xr, .slice LA xn lc] rfl) (by simp [Value.oneCell']) (by unfold maxLen; omega) (by omega) hsA h; clear b5 hb5 hk5 hnr))
      all_goals
        go_wp2_with fail
        exact ⟨⟨k + 1, _, _, by simp, HLT.out, HV6, HU6⟩, by have := HLT.out; simp only [intOf]; omega⟩
    · obtain rfl : ln = k := by omega
      have HV1 := hidden (show L'.map nwV = L.map nwV by have := hV.out; rwa [List.take_of_length_le (by rw [HLN.out]; exact Nat.le_refl _)] at this)
      have bB := (HBX3.out _ hA.out.below).cell 1
      clear hV HU
      go_wp2_with fail
      clear bB
      go_loopw [32] (fun vi wx => ∃ (q : Nat) (pv' : Value), vi = .int .i64 (q : Int) ∧ q ≤ pn ∧ Hid (RecU w2 wx R R nv' pv' L' (P.take q))) (fun vi _ => pn - (intOf vi).toNat)
      case atStart => exact ⟨0, _, rfl, Nat.zero_le _, hA⟩
      case round =>
        obtain ⟨q, pv', rfl, hq, hA2⟩ := hrel
        have q0 : (0 : Int) ≤ (q : Int) := by omega
        by_cases hlt2 : q < pn
        · have q1 : (q : Int) < (pn : Int) := by omega
          have fwq : IntKind.i64.wrap ((q : Int) + 1) = (q : Int) + 1 := Go.IntWalk.i64_in _ (by omega)
          have HLT := hidden (show q + 1 ≤ pn from hlt2)
          obtain ⟨A', c', e1, _, hrow⟩ := own_shape (own_below HP.out hA2.out.below (Nat.le_refl _))
          injection e1 with e1 _ e2
          subst e1 e2
          obtain ⟨gs, o, x, rfl, _, hx, hcl⟩ := row_at pntK hrow rfl q (by rw [HPN.out]; exact hlt2)
          have c0 := hcl 0 (by omega)
          have c1 := hcl 1 (by omega)
          have c2 := hcl 2 (by omega)
          have HTK := hidden (take_snoc? hx)
          have hql : (P.take q).length = q := by rw [List.length_take, HPN.out]; omega
          have HQL := hidden hql
          obtain ⟨xr, xt, xv⟩ := x
          simp only [PntR.cells, Nat.add_zero, List.getElem?_cons_zero, List.getElem?_cons_succ] at c0 c1 c2
          obtain ⟨oA, oc, rfl, _, _⟩ := own_shape hA2.out.pts
          have hown : wr.ownsRow w2.heap.size 203 3 (.slice oA q oc) q ((P.take q).flatMap PntR.cells) := by have := hA2.out.pts; rwa [hql] at this
          rw [hql] at hA2
          have x1 := hA2.out.rec_.cell 1
          have DA := hidden ((hA2.out.on ((Below.refl _ _).alloc (Nat.le_refl _) (.cells #[.int .i64 xr, .int .i64 xt, .int .u64 (xv : Int)] 115))))
          have DB := hidden (DA.out.on ((Below.refl _ _).alloc (Nat.le_refl _) (.cells #[.int .i64 xr, .int .i64 xt, .int .u64 (xv : Int)] 203)))
          have xa := DA.out.rec_.cell 1
          have hgw := DB.out.below.size
          have hfr := Row.fresh (wr.alloc (.cells #[.int .i64 xr, .int .i64 xt, .int .u64 (xv : Int)] 115)) 203 3 1 [.int .i64 xr, .int .i64 xt, .int .u64 (xv : Int)] rfl
          rw [World.size_alloc] at hfr
          clear hx hcl hql hrow
          go_wp2_with (at_builtin; refine wpList_app _ rfl _ _ 123 rfl w2.heap.size 203 j0 _ 3 24 Tryz.underlying123 j1 j2 j3 j4 rfl (by decide) _ _ _ rfl ((hown.alloc _).alloc _) _ _ _ _ _ rfl hfr (by simp [Value.oneCell']) (by unfold maxLen; omega) (by omega) hgw ?_; intro v7 w7 hown7 hg7 _; obtain ⟨A7, c7, rfl, _, _⟩ := own_shape hown7; obtain ⟨hR7, hU7, _⟩ := DB.out.point (x := ⟨xr, xt, xv⟩) (by rw [HQL.out]; exact hown7) hg7; have f7 := hR7.free 1; have o7 := hR7.cell 1; have HU7 := hidden hU7; clear hR7 hU7 hown7 hg7)
          exact ⟨⟨q + 1, _, by simp, HLT.out, by rw [HTK.out]; exact HU7⟩, by have := HLT.out; simp only [intOf]; omega⟩
        · obtain rfl : pn = q := by omega
          have hA3 := hidden (show RecU w2 wr R R nv' pv' L' P by have := hA2.out; rwa [List.take_of_length_le (by rw [HPN.out]; exact Nat.le_refl _)] at this)
          have bB := (HBX3.out _ hA3.out.below).cell 2
          clear hA hA2
          go_wp2_with fail
          clear bB
          refine wp_loop_rounds 1 ?_
          rw [rounds_succ]
          have hz := HR0.out.below hA3.out.below HR0.out.lt
          obtain ⟨An, cn, rfl, _, _⟩ := own_shape hA3.out.news.row
          obtain ⟨Ap, cp, rfl, _, _⟩ := own_shape hA3.out.pts
          obtain ⟨l', hl'⟩ : ∃ l', L'.length = l' := ⟨_, rfl⟩
          rw [hl', HPN.out] at hA3
          have HA3 := hidden hA3.out
          have r0 := hA3.out.rec_.cell 0
          have r1 := hA3.out.rec_.cell 1
          have r2 := hA3.out.rec_.cell 2
          have z0 := hz.cell 0
          have z1 := hz.cell 1
          have z2 := hz.cell 2
          have y0 := hz.free 0
          have y1 := (hz.put 0 (.slice An l' cn)).free 1
          have y2 := ((hz.put 0 (.slice An l' cn)).put 1 (.slice Ap pn cp)).free 2
          have z1b := (hz.put 0 (.slice An l' cn)).cell 1
          have z2b := ((hz.put 0 (.slice An l' cn)).put 1 (.slice Ap pn cp)).cell 2
          have hzz := ((hz.put 0 (.slice An l' cn)).put 1 (.slice Ap pn cp)).put 2 (.slice none 0 0)
          have ht3 : Turn 0 [126] false wr _ := ((Turn.put hz (Nat.zero_le _) (by simp) 0 (.slice An l' cn)).trans (Turn.put (hz.put 0 (.slice An l' cn)) (Nat.zero_le _) (by simp) 1 (.slice Ap pn cp))).trans (Turn.put ((hz.put 0 (.slice An l' cn)).put 1 (.slice Ap pn cp)) (Nat.zero_le _) (by simp) 2 (.slice none 0 0))
          have HT3 := hidden ht3
          have HZZ := hidden hzz
          have HL' := hidden hl'
          have hb9 : B ≤ R := by have h1 := HS2.out; have h2 := HRR.out; omega
          have HB9 := hidden (show Below w.heap.size w wr from HB2.out.trans (HA3.out.below.mono (by have := HBB.out; have := HRR.out; omega)))
          have HB8 := hidden hb9
          clear hz hA3 ht3 hzz hl' hb9
          go_wp2_with fail
          have d0 := HZZ.out.cell 0
          have d1 := HZZ.out.cell 1
          have d2 := HZZ.out.cell 2
          rw [HBB.out] at HB9 ⊢
          refine bodyPost_ret (v := .agg #[.slice An l' cn, .slice Ap pn cp, .slice none 0 0]) (by simp [results, Tryz.results39, go_sem, d0, d1, d2]) rfl ⟨_, _, L', rfl, ?_, HV1.out, ?_, ((HB9.out.setCell (p := ⟨B + 1, 0, none⟩) (Nat.le_succ B) _).setCell (p := ⟨B + 1, 1, none⟩) (Nat.le_succ B) _).setCell (p := ⟨B + 1, 2, none⟩) (Nat.le_succ B) _⟩
          · have h1 := HA3.out.news
            exact ⟨own_more (HT3.out.own (by rw [HL'.out]; have := h1.row; rwa [HL'.out] at this) (.inl (by decide))) (by have := HRR.out; have := HB8.out; omega), fun x hx => ⟨own_more (HT3.out.own (h1.labs x hx).1 (.inl (by decide))) HB8.out, (h1.labs x hx).2⟩⟩
          · exact own_more (HT3.out.own (by have := HA3.out.pts; rwa [HPN.out] at this) (.inl (by decide))) (by have := HRR.out; have := HB8.out; omega)

end Go.Proofs.YthncochjhbmceaaGreat
