/- record.Decode's first closure: a series that gets a number. Condition: the record that is being read lies as it says. record.Decode's second closure: a sample. Condition: the record that is being read lies as it says. -/
import Derived.Test.YtdggnnjjiolldaaGreatPkc4e77633
import Derived.Test.YtdggnnjjiolldaaGreatPk053f39fd
import Derived.Deep.RegionLaw
import Derived.RegionDies
namespace Go.Proofs.YtdggnnjjiolldaaGreat
set_option maxRecDepth 100000
open Go.RowKit Go.Shelf

set_option maxHeartbeats 3200000 in
theorem dec2_any (w0 : World) (g O E V Rd bP : Nat) (s : List UInt8) (σ : PS) (N : List NewR) (G : List GonR) (vN vP vG : Value) (w : World) (hs : s.length ≤ 4294967296) (ho : σ.Ok s) (h : DAt w0 g O E V Rd bP s σ N G vN vP vG w) :
    Calls Tryz.prog 28 #[.pointer (some ⟨V, 0, none⟩), .pointer (some ⟨O, 0, none⟩)] w fun e w' =>
      match stepN s σ with
      | some τ => e = .returned (.tuple #[]) ∧ ∃ N' vN', DAt w0 g O E V Rd bP s τ N' G vN' vP vG w'
      | none => PanB (DBad w0 g O E) e w' := by
  obtain ⟨i0, hi, hz0, hz1, hz2⟩ := info_parts infoNewR
  have HA := hidden h
  have lo := ho.lo
  have hi2 := ho.hi
  have S1 := hidden (number_any Rd s σ.a w h.rd (by omega) (by omega) (by omega))
  have c0 := h.var.cell 0
  obtain ⟨T, hT⟩ : ∃ T, stepN s σ = T := ⟨_, rfl⟩
  have HT := hidden hT
  rw [hT]
  clear hT h
  go_enter Tryz.func28, Tryz.ntmps28
  go_wp2_with fail
  refine S1.out.mono ?_
  rintro e w1 (⟨he, w2, rfl, b1, rfl⟩ | ⟨he, t, x, rfl, b1⟩)
  · have hx : numP s σ.a = some (min (readU s σ.a).1 4611686018427387904, (readU s σ.a).2.1) := by rw [numP, if_pos he]
    have H1 := hidden ((HA.out.on b1).seek (readU s σ.a).2.1)
    have h1 := (HA.out.on b1).seek (readU s σ.a).2.1
    generalize w2.setCell ⟨Rd, 1, none⟩ (.int .i64 (readU s σ.a).2.1) = w3 at H1 h1 ⊢
    obtain ⟨p1, p2, p3, p4⟩ := numP_ok hx
    simp only at p1 p3 p4
    obtain ⟨r, hr⟩ : ∃ r, min (readU s σ.a).1 4611686018427387904 = r := ⟨_, rfl⟩
    obtain ⟨b, hb⟩ : ∃ b, (readU s σ.a).2.1 = b := ⟨_, rfl⟩
    rw [hr] at hx p1 ⊢
    rw [hb] at hx p3 p4 h1 H1
    have hst : stepN s σ = if (decL s b).2.2 = 0 then some { σ with a := (decL s b).2.1, news := σ.news ++ [((r : Int), (decL s b).1)] } else none := by rw [stepN, hx]; rfl
    obtain ⟨L, c, er, hD⟩ : ∃ L c e, decL s b = (L, c, e) := ⟨_, _, _, rfl⟩
    rw [hD] at hst
    simp only at hst
    obtain ⟨nA, nc, rfl, hnc, hnr⟩ := own_shape h1.nown
    have S2 := hidden (take_l Rd ⟨s.toArray⟩ b c er (fun v W => W.ownsRow g 108 2 v L.length (L.flatMap Lbl.cells)) w3.drew h1.rd fun W hW => (ldec_any s b W (by omega) (by omega) (by omega)).mono fun e w' ⟨v, k1, k2, k3⟩ => by
      rw [hD] at k1 k2
      exact ⟨v, k1, own_down k2 (Nat.le_trans h1.le hW.size), k3⟩)
    have d0 := h1.var.cell 0
    have o0 := h1.out.cell 0
    have D0 := hidden (fun W (hW : Below w3.heap.size w3 W) => (H1.out.on hW).var.cell 0)
    clear hD c0 S1 HA b1 hx hr hb he hnr
    go_wp2_with fail
    by_cases he : er = 0
    · subst he
      rw [if_pos rfl] at hst
      obtain rfl := hst.symm.trans HT.out
      clear hst HT
      have S3 := hidden (S2.out.mono fun _ _ h => h.elim (fun k => k.2) fun k => absurd rfl k.1)
      have HOK := hidden ho
      have T := fun (W : World) (hW : W.ownsRow g 59 2 (.slice nA N.length nc) N.length (N.flatMap NewR.cells)) (hgW : g ≤ W.heap.size) (u : Value) (h1c : u.oneCell' = true) (ops : Array Oper) (o : Oper) (a : Act) (K : Act → World → Prop) (Q : Exit → Act → World → Prop) (E : Prop) (hg : o.guard = none) (s1 s2 : Operand) (ho : o.op = .call { callee := .builtin .append, args := #[s1, s2], argTypes := #[22, 22] }) (hs : a.eval s1 = .slice nA N.length nc) (hx : a.eval s2 = .slice (some ⟨W.heap.size, 0, none⟩) 1 1) h =>
        step_appR (P := Tryz.prog) (ops := ops) (o := o) (a := a) (K := K) (Q := Q) (E := E) (W.alloc (.cells #[.int .i64 (r : Int), u] 59)) hg s1 s2 22 ho g 59 i0 _ 2 32 Tryz.underlying22 hi hz0 hz1 hz2 rfl (by decide) _ _ _ hs (hW.alloc _) _ _ _ _ [.int .i64 (r : Int), u] hx (Row.fresh W 59 2 1 [.int .i64 (r : Int), u] rfl) (by intro y hy; simp at hy; rcases hy with rfl | rfl; exact rfl; exact h1c) (by unfold maxLen; have h2 := HOK.out.nn; rw [← H1.out.nv] at h2; simp at h2; omega) (by have h2 := HOK.out.nn; rw [← H1.out.nv] at h2; simp at h2; omega) (by rw [World.size_alloc]; exact Nat.le_succ_of_le hgW) h
      go_region_law (first
        | (refine T w5 D5.out.nown D5.out.le (.slice LA L.length lc) rfl _ _ _ _ _ _ rfl _ _ rfl rfl rfl ?_; intro v' w6 hown6 hg6 _; obtain ⟨A6, c6, rfl, _, _⟩ := own_shape hown6; have D6 := hidden ((DA.out).putN ⟨r, ⟨LA, L.length, lc, L⟩⟩ KA.out hown6 hg6); have f6 := (DO.out w6 hg6).1; have o6 := (DO.out w6 hg6).2.cell 0)
        | (go_simp; go_at_call 30; refine S3.out.mono ?_; rintro e w' ⟨v, w4, rfl, hk4, b4, rfl⟩; obtain ⟨LA, lc, rfl, hlc, -⟩ := own_shape hk4; have D4 := H1.out.on ((Below.refl _ _).drew.trans b4); have D5 := hidden (D4.seek c); have K5 := hidden (Go.ownsRow_setCell_other hk4 (a := ⟨Rd, 1, none⟩) (own_neT hk4 D4.rd (by decide)) (.int .i64 c)); generalize w4.setCell ⟨Rd, 1, none⟩ (.int .i64 c) = w5 at D5 K5 ⊢; have DA := hidden (D5.out.on ((Below.refl _ _).alloc (Nat.le_refl _) (.cells #[.int .i64 (r : Int), .slice LA L.length lc] 59))); have KA := hidden (K5.out.alloc (.cells #[.int .i64 (r : Int), .slice LA L.length lc] 59)); have DO := hidden (fun (w6 : World) (hg6 : World.grownBy (w5.alloc (.cells #[.int .i64 (r : Int), .slice LA L.length lc] 59)) w6 (Value.slice nA N.length nc).ownBlock) => (⟨((DA.out.out.beside DA.out.nown (by decide) hg6).free 0), DA.out.out.beside DA.out.nown (by decide) hg6⟩ : World.frozen? w6 ⟨O, 0, none⟩ = false ∧ Whole1 w6 O 26 #[.slice nA N.length nc, vP, vG])); have o5 := D5.out.out.cell 0; have o5a := DA.out.out.cell 0; clear D4 hk4 b4))
      all_goals
        go_wp2_with fail
        go_end0
        exact ⟨rfl, _, _, D6.out⟩
    · rw [if_neg he] at hst
      obtain rfl := hst.symm.trans HT.out
      clear hst HT
      have S4 := hidden (S2.out.mono fun _ _ h => h.elim (fun k => absurd k.1 he) fun k => k.2)
      clear S2
      go_region_dies
      all_goals
        refine S4.out.mono ?_
        rintro e w' ⟨t, x, rfl, b4⟩
        exact ⟨rfl, _, _, rfl, (H1.out.on ((Below.refl _ _).drew.trans b4)).bad⟩
  · obtain rfl : none = T := by rw [← HT.out, stepN, numP, if_neg he]; rfl
    go_wp2_with fail
    exact ⟨rfl, _, _, rfl, (HA.out.on b1).bad⟩
end Go.Proofs.YtdggnnjjiolldaaGreat

namespace Go.Proofs.YtdggnnjjiolldaaGreat
set_option maxRecDepth 100000
open Go.RowKit Go.Shelf

theorem intP_of {s : List UInt8} {a b r : Int} (he : (readI s a).2.2 = 0) (hr : (readI s a).1 = r) (hb : (readI s a).2.1 = b) : intP s a = some (r, b) := by rw [intP, if_pos he, hr, hb]
theorem intP_no {s : List UInt8} {a : Int} (he : (readI s a).2.2 ≠ 0) : intP s a = none := by rw [intP, if_neg he]
theorem u64P_of {s : List UInt8} {a b : Int} {r : Nat} (he : (readU s a).2.2 = 0) (hr : (readU s a).1 = r) (hb : (readU s a).2.1 = b) : u64P s a = some (r, b) := by rw [u64P, if_pos he, hr, hb]
theorem u64P_no {s : List UInt8} {a : Int} (he : (readU s a).2.2 ≠ 0) : u64P s a = none := by rw [u64P, if_neg he]
/-- the sample before, as it lies -/
abbrev LastAt (w : World) (L : Nat) (x y : Int) (z : Nat) : Prop := Whole1 w L 62 #[.int .i64 x, .int .i64 y, .int .u64 (z : Int)]
section
variable {w0 : World} {g O E V Rd bP L : Nat} {s : List UInt8} {σ : PS} {N : List NewR} {G : List GonR} {vN vP vG : Value} {w w' : World} {cs : Array Value}
theorem DAt.putL (h : DAt w0 g O E V Rd bP s σ N G vN vP vG w) (hl : Whole1 w L 62 cs) (h1 : L < bP) (h2 : g ≤ L) (i : Nat) (v : Value) : DAt w0 g O E V Rd bP s σ N G vN vP vG (w.setCell ⟨L, i, none⟩ v) :=
  ⟨h.out.off (h.out.apart hl (by decide)) _, h.err.off (h.err.apart hl (by decide)) _, h.var.off (h.var.apart hl (by decide)) _, h.rd.off (h.rd.apart hl (by decide)) _,
    Go.ownsRow_setCell_other h.nown (a := ⟨L, i, none⟩) (own_neT h.nown hl (by decide)) _, ownsRow_setCell_below h.pown (a := ⟨L, i, none⟩) h1 _, Go.ownsRow_setCell_other h.gown (a := ⟨L, i, none⟩) (own_neT h.gown hl (by decide)) _,
    fun x hx => Go.ownsRow_setCell_other (h.labs x hx) (a := ⟨L, i, none⟩) (own_neT (h.labs x hx) hl (by decide)) _, fun x hx => Go.ownsRow_setCell_other (h.spns x hx) (a := ⟨L, i, none⟩) (own_neT (h.spns x hx) hl (by decide)) _,
    h.nv, h.gv, h.below.setCell (p := ⟨L, i, none⟩) h2 _, h.base, h.gO, h.gE, h.gR, by simpa [World.setCell] using h.bl⟩
theorem DAt.again {τ : PS} (h : DAt w0 g O E V Rd bP s σ N G vN vP vG w) (e1 : τ.a = σ.a) (e2 : τ.news = σ.news) (e3 : τ.pts = σ.pts) (e4 : τ.gones = σ.gones) : DAt w0 g O E V Rd bP s τ N G vN vP vG w :=
  ⟨h.out, h.err, h.var, by rw [e1]; exact h.rd, h.nown, by rw [e3]; exact h.pown, h.gown, h.labs, h.spns, by rw [e2]; exact h.nv, by rw [e4]; exact h.gv, h.below, h.base, h.gO, h.gE, h.gR, h.bl⟩
end

set_option maxHeartbeats 3200000 in
theorem dec3_any (w0 : World) (g O E V Rd bP L : Nat) (s : List UInt8) (σ : PS) (N : List NewR) (G : List GonR) (vN vP vG : Value) (w : World) (hs : s.length ≤ 4294967296) (ho : σ.Ok s) (h : DAt w0 g O E V Rd bP s σ N G vN vP vG w) (hl : LastAt w L σ.last.ref σ.last.t σ.last.v) (hL1 : L < bP) (hL2 : g ≤ L) :
    Calls Tryz.prog 32 #[.pointer (some ⟨L, 0, none⟩), .pointer (some ⟨V, 0, none⟩), .pointer (some ⟨O, 0, none⟩)] w fun e w' =>
      match stepP s σ with
      | some τ => e = .returned (.tuple #[]) ∧ ∃ vP', DAt w0 g O E V Rd bP s τ N G vN vP' vG w' ∧ LastAt w' L τ.last.ref τ.last.t τ.last.v
      | none => PanB (DBad w0 g O E) e w' := by
  obtain ⟨i0, hi, hz0, hz1, hz2⟩ := info_parts infoPntR
  have HOK := hidden ho
  have lo := ho.lo
  have hi2 := ho.hi
  obtain ⟨lx, hlx⟩ : ∃ x, σ.last.ref = x := ⟨_, rfl⟩
  obtain ⟨ly, hly⟩ : ∃ x, σ.last.t = x := ⟨_, rfl⟩
  obtain ⟨lz, hlz⟩ : ∃ x, σ.last.v = x := ⟨_, rfl⟩
  have hlv := ho.lastv
  rw [hlx, hly, hlz] at hl
  rw [hlz] at hlv
  have INT := hidden (fun (τ : PS) (W : World) (hd : DAt w0 g O E V Rd bP s τ N G vN vP vG W) (h1 : 0 ≤ τ.a) (h2 : τ.a ≤ s.length) => take_i Rd ⟨s.toArray⟩ τ.a (readI s τ.a).2.1 (readI s τ.a).2.2 (fun v _ => v = .int .i64 (readI s τ.a).1) W hd.rd fun W' _ => (readInt_any s τ.a W' (by omega) (by omega) (by omega)).mono fun e w' k => ⟨_, k.1, rfl, k.2⟩)
  have H0 := hidden (h.on ((Below.refl _ _).drew))
  have HL0 := hidden (hl.drew)
  have c0 := H0.out.var.cell 0
  have l0 := HL0.out.cell 0
  obtain ⟨T, hT⟩ : ∃ T, stepP s σ = T := ⟨_, rfl⟩
  have HT := hidden hT
  rw [hT]
  clear hT h ho hl
  go_enter Tryz.func32, Tryz.ntmps32
  by_cases he : (readI s σ.a).2.2 = 0
  · obtain ⟨r, hr⟩ : ∃ r, (readI s σ.a).1 = r := ⟨_, rfl⟩
    obtain ⟨b, hb⟩ : ∃ b, (readI s σ.a).2.1 = b := ⟨_, rfl⟩
    have hx := intP_of he hr hb
    obtain ⟨p2, p3, p4⟩ := intP_ok hx
    simp only at p3 p4
    have S1 := hidden ((INT.out σ _ H0.out lo hi2).mono fun _ _ h => h.elim (fun k => k.2) fun k => absurd he k.1)
    rw [hr, hb] at S1
    clear hr hb he
    go_upto_region 0 with (fail)
    go_cut [] (fun wx => Hid (DAt w0 g O E V Rd bP s { σ with a := b } N G vN vP vG wx) ∧ Hid (LastAt wx L (wrap64 (lx + r)) ly lz))
    case first =>
      go_region_law (first
        | (go_simp; go_at_call 33; refine S1.out.mono ?_; rintro e w' ⟨v, w1, rfl, rfl, b1, rfl⟩; have D1 := H0.out.on b1; have M1 := HL0.out.below b1 HL0.out.lt; have D2 := hidden (D1.seek b); have M2 := hidden (M1.off (p := ⟨Rd, 1, none⟩) (M1.apart D1.rd (by decide)) (.int .i64 b)); generalize w1.setCell ⟨Rd, 1, none⟩ (.int .i64 b) = w2 at D2 M2 ⊢; have m2 := M2.out.cell 0; have n2 := M2.out.free 0; clear b1 D1 M1))
      all_goals
        go_wp2_with fail
        go_meet
        rw [Go.IntWalk.i64_left]
        exact ⟨hidden (D2.out.putL M2.out hL1 hL2 0 _), hidden (M2.out.put 0 _)⟩
    case rest =>
      obtain ⟨D2', M2'⟩ := hcut
      have D2 := hidden (D2'.out.on (Below.refl _ _).drew)
      have M2 := hidden M2'.out.drew
      clear D2' M2'
      clear S1 H0 HL0 c0 l0
      have INT2 := hidden (fun W hd => INT.out { σ with a := b } W hd (by simp only; omega) (by simp only; omega))
      simp only at INT2
      have c2 := D2.out.var.cell 0
      have l2 := M2.out.cell 1
      by_cases he : (readI s b).2.2 = 0
      · obtain ⟨q, hq⟩ : ∃ r, (readI s b).1 = r := ⟨_, rfl⟩
        obtain ⟨d, hd⟩ : ∃ d, (readI s b).2.1 = d := ⟨_, rfl⟩
        have hy := intP_of he hq hd
        obtain ⟨q2, q3, q4⟩ := intP_ok hy
        simp only at q3 q4
        have S1 := hidden ((INT2.out _ D2.out).mono fun _ _ h => h.elim (fun k => k.2) fun k => absurd he k.1)
        rw [hq, hd] at S1
        clear hq hd he
        go_upto_region 1 with (fail)
        go_cut [] (fun wx => Hid (DAt w0 g O E V Rd bP s { σ with a := d } N G vN vP vG wx) ∧ Hid (LastAt wx L (wrap64 (lx + r)) (wrap64 (ly + q)) lz))
        case first =>
          go_region_law (first
            | (go_simp; go_at_call 33; refine S1.out.mono ?_; rintro e w' ⟨v, w1, rfl, rfl, b1, rfl⟩; have D3 := D2.out.on b1; have M3 := M2.out.below b1 M2.out.lt; have D4 := hidden (D3.seek d); have M4 := hidden (M3.off (p := ⟨Rd, 1, none⟩) (M3.apart D3.rd (by decide)) (.int .i64 d)); generalize w1.setCell ⟨Rd, 1, none⟩ (.int .i64 d) = w4 at D4 M4 ⊢; have m4 := M4.out.cell 1; have n4 := M4.out.free 1; clear b1 D3 M3))
          all_goals
            go_wp2_with fail
            go_meet
            rw [Go.IntWalk.i64_left]
            exact ⟨hidden (D4.out.putL M4.out hL1 hL2 1 _), hidden (M4.out.put 1 _)⟩
        case rest =>
          obtain ⟨D4', M4'⟩ := hcut
          have D4 := hidden (D4'.out.on (Below.refl _ _).drew)
          have M4 := hidden M4'.out.drew
          clear D4' M4'
          clear S1 INT INT2 D2 M2 c2 l2
          have S3 := hidden (take_u Rd ⟨s.toArray⟩ d (readU s d).2.1 (readU s d).2.2 (fun v _ => v = .int .u64 (readU s d).1) wc.drew D4.out.rd fun W' _ => (readUint_any s d W' (by omega) (by omega) (by omega)).mono fun e w' k => ⟨_, k.1, rfl, k.2⟩)
          have c4 := D4.out.var.cell 0
          have l4 := M4.out.cell 2
          by_cases he : (readU s d).2.2 = 0
          · obtain ⟨z, hz⟩ : ∃ r, (readU s d).1 = r := ⟨_, rfl⟩
            obtain ⟨f, hf⟩ : ∃ f, (readU s d).2.1 = f := ⟨_, rfl⟩
            have hw := u64P_of he hz hf
            obtain ⟨z1, z2, z3, z4⟩ := u64P_ok hw
            simp only at z1 z3 z4
            have S4 := hidden (S3.out.mono fun _ _ h => h.elim (fun k => k.2) fun k => absurd he k.1)
            rw [hz, hf] at S4
            obtain ⟨lx', hlx'⟩ : ∃ x, wrap64 (lx + r) = x := ⟨_, rfl⟩
            obtain ⟨ly', hly'⟩ : ∃ x, wrap64 (ly + q) = x := ⟨_, rfl⟩
            obtain ⟨lz', hlz'⟩ : ∃ x, lz ^^^ z = x := ⟨_, rfl⟩
            obtain rfl : some { σ with a := f, last := ⟨lx', ly', lz'⟩, pts := σ.pts ++ [⟨lx', ly', lz'⟩] } = T := by
              rw [← HT.out, stepP, hx]
              simp only [Option.bind_some]
              rw [hy]
              simp only [Option.bind_some]
              rw [hw]
              simp only [Option.bind_some, hlx, hly, hlz, hlx', hly', hlz']
            clear S3 HT hw hz hf he hx hy
            have hbits : bits .xor .u64 (lz : Int) (z : Int) = (lz' : Int) := by rw [← hlz']; exact u64_xor_nat _ _ hlv z1
            rw [hlx', hly'] at M4
            clear hlx' hly' hlz'
            go_upto_region 2 with (fail)
            go_cut [] (fun wx => Hid (DAt w0 g O E V Rd bP s { σ with a := f } N G vN vP vG wx) ∧ Hid (LastAt wx L lx' ly' lz'))
            case first =>
              go_region_law (first
                | (go_simp; go_at_call 35; refine S4.out.mono ?_; rintro e w' ⟨v, w1, rfl, rfl, b1, rfl⟩; have D5 := D4.out.on b1; have M5 := M4.out.below b1 M4.out.lt; have D6 := hidden (D5.seek f); have M6 := hidden (M5.off (p := ⟨Rd, 1, none⟩) (M5.apart D5.rd (by decide)) (.int .i64 f)); generalize w1.setCell ⟨Rd, 1, none⟩ (.int .i64 f) = w6 at D6 M6 ⊢; have m6 := M6.out.cell 2; have n6 := M6.out.free 2; clear b1 D5 M5))
              all_goals
                go_wp2_with fail
                go_meet
                exact ⟨hidden (D6.out.putL M6.out hL1 hL2 2 _), hidden (M6.out.put 2 _)⟩
            case rest =>
              obtain ⟨D6, M6⟩ := hcut
              clear S4 D4 M4 c4 l4
              have hown : wc.ownsRow bP 62 3 vP σ.pts.length (σ.pts.flatMap PntR.cells) := D6.out.pown
              obtain ⟨pA, pc, hvP, hpc, -⟩ := own_shape hown
              subst hvP
              have c6 := D6.out.out.cell 1
              have m0 := M6.out.cell 0
              have m1 := M6.out.cell 1
              have m2 := M6.out.cell 2
              have hlen := HOK.out.pn
              have hbl := D6.out.bl
              have DA := hidden (D6.out.on ((Below.refl _ _).alloc (Nat.le_refl _) (.cells #[.int .i64 lx', .int .i64 ly', .int .u64 (lz' : Int)] 62)))
              have MA := hidden (M6.out.alloc (.cells #[.int .i64 lx', .int .i64 ly', .int .u64 (lz' : Int)] 62))
              have hfr := Row.fresh wc 62 3 1 [.int .i64 lx', .int .i64 ly', .int .u64 (lz' : Int)] rfl
              have DO := hidden (fun (w7 : World) (hg7 : World.grownBy (wc.alloc (.cells #[.int .i64 lx', .int .i64 ly', .int .u64 (lz' : Int)] 62)) w7 (Value.slice pA σ.pts.length pc).ownBlock) => (⟨(DA.out.out.beside DA.out.pown (by decide) hg7).free 1, DA.out.out.beside DA.out.pown (by decide) hg7, MA.out.grown hg7 fun e => by have := (DA.out.pown.lt L e.symm).1; omega⟩ : World.frozen? w7 ⟨O, 1, none⟩ = false ∧ Whole1 w7 O 26 #[vN, .slice pA σ.pts.length pc, vG] ∧ LastAt w7 L lx' ly' lz'))
              go_wp2_with (at_builtin; refine wpList_app _ rfl _ _ 23 rfl bP 62 i0 _ 3 24 Tryz.underlying23 hi hz0 hz1 hz2 rfl (by decide) _ _ _ rfl (hown.alloc _) _ _ _ _ _ rfl hfr (by simp [Value.oneCell']) (by unfold maxLen; omega) (by omega) (by simp; omega) ?_; intro v7 w7 hown7 hg7 _; obtain ⟨A7, c7, rfl, _, _⟩ := own_shape hown7; have D7 := hidden (DA.out.putP ⟨lx', ly', lz'⟩ (by omega) hown7 hg7); have f7 := (DO.out w7 hg7).1; have o7 := (DO.out w7 hg7).2.1.cell 1; have M7 := hidden ((DO.out w7 hg7).2.2.off (p := ⟨O, 1, none⟩) ((DO.out w7 hg7).2.2.apart (DO.out w7 hg7).2.1 (by decide)) (.slice A7 (σ.pts.length + 1) c7)))
              go_end0
              exact ⟨rfl, ⟨_, D7.out.again rfl rfl rfl rfl⟩, M7.out⟩
          · obtain rfl : none = T := by
              rw [← HT.out, stepP, hx]
              simp only [Option.bind_some]
              rw [hy]
              simp only [Option.bind_some]
              rw [u64P_no he]; rfl
            have S4 := hidden (S3.out.mono fun _ _ h => h.elim (fun k => absurd k.1 he) fun k => k.2)
            clear S3
            go_wp2_with fail
            go_region_dies
            all_goals
              refine S4.out.mono ?_
              rintro e w' ⟨t, x, rfl, b1⟩
              exact ⟨rfl, _, _, rfl, (D4.out.on b1).bad⟩
      · obtain rfl : none = T := by
          rw [← HT.out, stepP, hx]
          simp only [Option.bind_some]
          rw [intP_no he]; rfl
        have S1 := hidden ((INT2.out _ D2.out).mono fun _ _ h => h.elim (fun k => absurd k.1 he) fun k => k.2)
        go_wp2_with fail
        go_region_dies
        all_goals
          refine S1.out.mono ?_
          rintro e w' ⟨t, x, rfl, b1⟩
          exact ⟨rfl, _, _, rfl, (D2.out.on b1).bad⟩
  · obtain rfl : none = T := by rw [← HT.out, stepP, intP_no he]; rfl
    have S1 := hidden ((INT.out σ _ H0.out lo hi2).mono fun _ _ h => h.elim (fun k => absurd k.1 he) fun k => k.2)
    go_wp2_with fail
    go_region_dies
    all_goals
      refine S1.out.mono ?_
      rintro e w' ⟨t, x, rfl, b1⟩
      exact ⟨rfl, _, _, rfl, (H0.out.on b1).bad⟩
end Go.Proofs.YtdggnnjjiolldaaGreat
