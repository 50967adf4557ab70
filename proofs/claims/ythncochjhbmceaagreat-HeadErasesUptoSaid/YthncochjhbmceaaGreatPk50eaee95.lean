/- 'append(s[:0:0], s...)': a copy. No condition but the reach. slices.Clone at labels: a copy of the call's own. Condition: the row is within the reach. slices.Clone at labels: a copy of the call's own. Condition: the row is within the reach. labels.Make, walked: the sorted set of labels, or its error. Condition: the row is within the reach. The law's helpers ref, twin, alike at labels: what they return. Condition: the rows are within the reach. The reference's Make, walked: the sorted set of labels, or its error. Condition: the row is within the reach. -/
import Derived.Test.YthncochjhbmceaaGreatBase
import Derived.ArgAppend
import Derived.Test.YthncochjhbmceaaGreatPkbc8588bb
import Derived.Test.YthncochjhbmceaaGreatPk67e2a8de
import Derived.Test.YthncochjhbmceaaGreatPk45147243
import Derived.Test.YthncochjhbmceaaGreatPkddaa9167
import Derived.Test.YthncochjhbmceaaGreatPk6aaa6515
import Derived.IntWalk
namespace Go.Proofs.YthncochjhbmceaaGreat
set_option maxRecDepth 100000
open Go.RowKit

section
variable {P : Program} (w : World)
theorem run_app_zero (t ty e : TypeId) (i : TypeInfo) (ht : P.underlying t = some (.slice e)) (hi : P.info? e = some i) (D A : Option Addr) (c k : Nat) :
    (Builtin.append_ #[t, t] ty #[.slice D 0 k, .slice A 0 c]).run P w = .ok (.slice D 0 k) w := by
  cases D <;> cases A <;> simp [Builtin.append_, run_underlying ht, sizeOf, typeInfo, hi, Builtin.lenOf, Builtin.firstCells, storeCells, loadCells, loadCellsFrom]

theorem run_clone (t ty e : TypeId) (i : TypeInfo) (z : Value) (size bytes : Nat) (ht : P.underlying t = some (.slice e)) (hi : P.info? e = some i) (hz : i.zero = some z)
    (hsize : i.size = size) (hby : i.bytes = bytes) (hzs : z.cells.size = size) (hsz : 0 < size) (D : Option Addr)
    (B : Nat) (A : Option Addr) (m c : Nat) (news : List Value) (hr : Row w B size A m news) (h1 : ∀ u ∈ news, u.oneCell' = true)
    (h63 : m ≤ maxLen) (hbytes : m * bytes ≤ 140737488355328) :
    ∃ v' w', (Builtin.append_ #[t, t] ty #[.slice D 0 0, .slice A m c]).run P w = .ok v' w' ∧ w.grownBy w' none ∧ ((m = 0 ∧ v' = .slice D 0 0) ∨ w'.ownsRow w.heap.size e size v' m news) := by
  rcases Nat.eq_zero_or_pos m with h0 | h0
  · subst h0
    exact ⟨_, w, run_app_zero w t ty e i ht hi D A c 0, gb_refl w _, .inl ⟨rfl, rfl⟩⟩
  · cases D with
    | none =>
      obtain ⟨v', w', hrun, h2, h3, _⟩ := run_app (P := P) w w.heap.size t ty e i z size bytes ht hi hz hsize hby hzs hsz (.slice none 0 0) 0 [] (World.ownsRow_nil _ _ _ _) B A m c news hr h1 (by omega) (by rw [Nat.zero_add]; exact hbytes) (Nat.le_refl _)
      exact ⟨v', w', hrun, h3, .inr (by simpa using h2)⟩
    | some b =>
      obtain ⟨g, o, rfl, _, hc⟩ := hr.at_ h0
      obtain ⟨v', w', hrun, h2, h3⟩ := run_append_arg_grows (P := P) w t ty e i z size bytes ht hi hz hsize hby hzs hsz b 0 0 [] (by simp) (by simp) ⟨g, o, none⟩ m c news hr.len
        (fun j u hu => by
          have hj : j < news.length := by
            rcases Nat.lt_or_ge j news.length with h | h
            · exact h
            · rw [List.getElem?_eq_none h] at hu; cases hu
          rw [Addr.add_lit, hc j (by rw [← hr.len]; exact hj)]; exact hu) (by omega) (by omega) (by rw [Nat.zero_add]; exact hbytes)
      exact ⟨v', w', hrun, h3, .inr (by simpa using h2)⟩
end

theorem wp_clone {P : Program} (w : World) {o : Oper} {a : Act} {K : Act → World → Prop} {Q : Exit → Act → World → Prop} (s x : Operand) (t : TypeId)
    (ho : o.op = .call { callee := .builtin .append, args := #[s, x], argTypes := #[t, t] })
    (e : TypeId) (i : TypeInfo) (z : Value) (size bytes : Nat) (ht : P.underlying t = some (.slice e)) (hi : P.info? e = some i) (hz : i.zero = some z)
    (hsize : i.size = size) (hby : i.bytes = bytes) (hzs : z.cells.size = size) (hsz : 0 < size) (D : Option Addr) (hs : a.eval s = .slice D 0 0)
    (B : Nat) (A : Option Addr) (m c : Nat) (news : List Value) (hx : a.eval x = .slice A m c) (hr : Row w B size A m news) (h1 : ∀ u ∈ news, u.oneCell' = true)
    (h63 : m ≤ maxLen) (hbytes : m * bytes ≤ 140737488355328)
    (h : ∀ v' w', w.grownBy w' none → ((m = 0 ∧ v' = .slice D 0 0) ∨ w'.ownsRow w.heap.size e size v' m news) → K (a.put o.dst v') w') : o.wp P a w K Q := by
  obtain ⟨v', w', hrun, h2, h3⟩ := run_clone (P := P) w t o.type e i z size bytes ht hi hz hsize hby hzs hsz D B A m c news hr h1 h63 hbytes
  unfold Oper.wp execOp
  simp only [ho, resolve, invoke, builtin, Sem.run_bind, Sem.run_pure, Result.andThen_ok, List.map_toArray, List.map_cons, List.map_nil, hs, hx, hrun]
  exact h v' w' h2 h3

theorem wpList_clone {P : Program} (w : World) {ops : Array Oper} {rest : List Oper} {o : Oper} {a : Act} {Q : Exit → Act → World → Prop} (hgd : o.guard = none) (s x : Operand) (t : TypeId)
    (ho : o.op = .call { callee := .builtin .append, args := #[s, x], argTypes := #[t, t] })
    (e : TypeId) (i : TypeInfo) (z : Value) (size bytes : Nat) (ht : P.underlying t = some (.slice e)) (hi : P.info? e = some i) (hz : i.zero = some z)
    (hsize : i.size = size) (hby : i.bytes = bytes) (hzs : z.cells.size = size) (hsz : 0 < size) (D : Option Addr) (hs : a.eval s = .slice D 0 0)
    (B : Nat) (A : Option Addr) (m c : Nat) (news : List Value) (hx : a.eval x = .slice A m c) (hr : Row w B size A m news) (h1 : ∀ u ∈ news, u.oneCell' = true)
    (h63 : m ≤ maxLen) (hbytes : m * bytes ≤ 140737488355328)
    (h : ∀ v' w', w.grownBy w' none → ((m = 0 ∧ v' = .slice D 0 0) ∨ w'.ownsRow w.heap.size e size v' m news) → wpList P ops Q rest (a.put o.dst v') w') : wpList P ops Q (o :: rest) a w :=
  wpList_plain hgd fun _ hK => wp_clone w s x t ho e i z size bytes ht hi hz hsize hby hzs hsz D hs B A m c news hx hr h1 h63 hbytes fun v' w' h2 h3 => hK _ _ (h v' w' h2 h3)
end Go.Proofs.YthncochjhbmceaaGreat

namespace Go.Proofs.YthncochjhbmceaaGreat
set_option maxRecDepth 100000
open Go.RowKit

/-! slices.Clone at labels -/
end Go.Proofs.YthncochjhbmceaaGreat

namespace Go.Proofs.YthncochjhbmceaaGreat.ClnLbl
set_option maxRecDepth 100000
open Go.RowKit

theorem info : (Tryz.prog.info? 70).map (fun i => (i.zero, i.size, i.bytes)) = some (some (.agg #[.string ByteArray.empty, .string ByteArray.empty]), 2, 32) := by kernel_rfl
theorem cells_one (l : List Lbl) : ∀ u ∈ l.flatMap Lbl.cells, u.oneCell' = true := by
  intro u hu
  simp only [Lbl.cells, List.mem_flatMap, List.mem_cons, List.not_mem_nil, or_false] at hu
  obtain ⟨s, _, rfl | rfl⟩ := hu <;> rfl

set_option maxHeartbeats 1600000 in
theorem cloneO_any (A : Option Addr) (n c : Nat) (l : List Lbl) (w : World) (hr : Row w w.heap.size 2 A n (l.flatMap Lbl.cells)) (hl : l.length = n) (hn : n * 32 ≤ 140737488351232) :
    Calls Tryz.prog 32 #[.slice A n c] w fun e w' => ∃ s : Sl Lbl, e = .returned s.val ∧ s.l = l ∧ s.n = n ∧ s.At w' w'.heap.size 2 Lbl.cells ∧ (∀ j, j < w.heap.size → s.Off (some j)) ∧ Below w.heap.size w w' ∧ (0 < n → w'.ownsRow w.heap.size 70 2 s.val n (l.flatMap Lbl.cells)) := by
  obtain ⟨i0, hi, hz0, hz1, hz2⟩ := info_parts info
  have hL := hidden hl
  clear hl
  cases A with
  | none =>
    have hn0 : n = 0 := by
      rcases Nat.eq_zero_or_pos n with h | h
      · exact h
      · obtain ⟨_, _, h', _⟩ := hr.at_ h
        cases h'
    subst hn0
    have h1 := fun w : World => Lib.run_eql_slice_nil (P := Tryz.prog) w 61 70 none 0 c 0 0 Tryz.underlying61
    go_enter Tryz.func32, Tryz.ntmps32
    go_wp2
    go_ret
    exact ⟨⟨none, 0, 0, l⟩, rfl, rfl, rfl, ⟨Nat.le_refl _, hL.out, hr⟩, fun j _ hn => by simp at hn, Below.refl _ _, fun h => absurd h (by omega)⟩
  | some a =>
    have h1 := fun w : World => Lib.run_eql_slice_nil (P := Tryz.prog) w 61 70 (some a) n c 0 0 Tryz.underlying61
    go_enter Tryz.func32, Tryz.ntmps32
    go_wp2_with (at_builtin; refine wpList_clone _ rfl _ _ 61 rfl 70 i0 _ 2 32 Tryz.underlying61 hi hz0 hz1 hz2 rfl (by decide) _ rfl w.heap.size _ _ _ _ rfl (hr.alloc (Nat.le_refl _) _) (cells_one l) (by unfold maxLen; omega) (by omega) ?_; intro v1 w1 hg1 hown1)
    go_ret
    have hb1 : Below w.heap.size w w1 := ((Below.refl _ _).alloc (Nat.le_refl _) _).grown hg1 (by simp) (fun j hj => by cases hj)
    rcases hown1 with ⟨rfl, rfl⟩ | hown1
    · have hl0 : l = [] := List.eq_nil_of_length_eq_zero hL.out
      subst hl0
      exact ⟨⟨_, 0, 0, []⟩, rfl, rfl, rfl, ⟨Nat.le_refl _, rfl, ⟨rfl, fun h => absurd h (by simp)⟩⟩, fun j _ hn => by simp at hn, hb1, fun h => absurd h (by omega)⟩
    · obtain ⟨A1, c1, rfl, hc1, hr1⟩ := own_shape hown1
      exact ⟨⟨A1, n, c1, l⟩, rfl, rfl, rfl, ⟨hc1, hL.out, hr1⟩, fun j hj => Sl.off_own hown1 (by simp; omega), hb1, fun _ => ⟨hown1.1, hown1.2.imp id fun ⟨g, cap, cur, h1, h2, h3⟩ => ⟨g, cap, cur, h1, by simp at h2; omega, h3⟩⟩⟩
theorem clone_any (A : Option Addr) (n c : Nat) (l : List Lbl) (w : World) (hr : Row w w.heap.size 2 A n (l.flatMap Lbl.cells)) (hl : l.length = n) (hn : n * 32 ≤ 140737488351232) :
    Calls Tryz.prog 32 #[.slice A n c] w fun e w' => ∃ s : Sl Lbl, e = .returned s.val ∧ s.l = l ∧ s.n = n ∧ s.At w' w'.heap.size 2 Lbl.cells ∧ (∀ j, j < w.heap.size → s.Off (some j)) ∧ Below w.heap.size w w' := by
  refine (cloneO_any A n c l w hr hl hn).mono ?_
  rintro e w' ⟨s, h1, h2, h3, h4, h5, h6, _⟩
  exact ⟨s, h1, h2, h3, h4, h5, h6⟩
end Go.Proofs.YthncochjhbmceaaGreat.ClnLbl

namespace Go.Proofs.YthncochjhbmceaaGreat
set_option maxRecDepth 100000
open Go.RowKit Go.Shelf Go.Sort

theorem mkp_any (x : Lbl) (g : Nat) (nm : ByteArray) (w : World) (hg : w.cell? ⟨g, 0, none⟩ = some (.string nm)) :
    Calls Tryz.prog 105 #[.agg #[.string x.name, .string x.value], .pointer (some ⟨g, 0, none⟩)] w fun e w' => e = .returned (.bool (decide (x.name = nm))) ∧ Below w.heap.size w w' := by
  have hg1 := gr_alloc_cell (.cells #[.string x.name, .string x.value] 70) hg
  have hb : Below w.heap.size w (w.alloc (.cells #[.string x.name, .string x.value] 70)) := (Below.refl _ _).alloc (Nat.le_refl _) _
  have hd : (x.name.toList == nm.toList) = decide (x.name = nm) := str_eq x.name nm
  have HB := hidden hb
  clear hb
  go_enter Tryz.func105, Tryz.ntmps105
  go_wp2_with fail
  go_ret
  exact ⟨rfl, HB.out⟩

theorem e51 : ∀ args w, (callFunc 90 args).run Tryz.prog w = .ok (.enter 90 args) w := enters_of Tryz.func90 (by kernel_rfl) rfl
theorem swoN : SWO fun x y : Lbl => decide (cmpB x.name y.name < 0) where
  irrefl x := tri_B.swo.irrefl x.name
  trans x y z := tri_B.swo.trans x.name y.name z.name
  ntrans x y z := tri_B.swo.ntrans x.name y.name z.name
theorem e48 : ∀ args w, (callFunc 105 args).run Tryz.prog w = .ok (.enter 105 args) w := enters_of Tryz.func105 (by kernel_rfl) rfl
set_option maxHeartbeats 3200000 in
theorem lmake_any (A : Option Addr) (n c : Nat) (l : List Lbl) (w : World) (h : LbF w A n l) (hnc : n ≤ c) :
    Calls Tryz.prog 60 #[.slice A n c] w fun e w' => ∃ v, e = .returned (.tuple #[v, .int .i64 (makeErr l)]) ∧ w'.ownsRow w.heap.size 70 2 v (makeL l).length ((makeL l).flatMap Lbl.cells) ∧ Below w.heap.size w w' := by
  have hfit := h.fit
  by_cases h0 : n = 0
  · subst h0
    obtain rfl : l = [] := List.eq_nil_of_length_eq_zero h.len
    go_enter Tryz.func60, Tryz.ntmps60
    go_wp2_with fail
    go_ret2
    exact ⟨_, rfl, World.ownsRow_nil _ _ _ _, Below.refl _ _⟩
  · have n0 : ((n : Int) == 0) = false := by simp; omega
    by_cases h8 : 8 < n
    · have n8 : (8 : Int) < (n : Int) := by omega
      have HE : Hid (makeErr l = 44) := by rw [Hid, makeErr, if_neg (by rw [h.len]; omega), if_pos (by rw [h.len]; omega)]
      have HL : Hid (makeL l = []) := by rw [Hid, makeL, if_neg (by rw [HE.out]; decide)]
      clear h
      go_enter Tryz.func60, Tryz.ntmps60
      go_wp2_with fail
      go_ret2
      rw [HE.out, HL.out]
      exact ⟨_, rfl, World.ownsRow_nil _ _ _ _, Below.refl _ _⟩
    · have n8 : ¬ (8 : Int) < (n : Int) := by omega
      have H := hidden h
      have HM : Hid (makeErr l = errUpto l n) := by rw [Hid, makeErr, if_neg (by rw [h.len]; omega), if_neg (by rw [h.len]; omega), h.len]
      clear h
      go_enter Tryz.func60, Tryz.ntmps60
      go_wp2_with fail
      go_loopw [17] (fun vi wr => ∃ k : Nat, k ≤ n ∧ vi = .int .i64 k ∧ Hid (errUpto l k = 0) ∧ Below w.heap.size w wr) (fun vi _ => n - (intOf vi).toNat)
      case atStart => exact ⟨0, Nat.zero_le _, rfl, rfl, Below.refl _ _⟩
      case round =>
        obtain ⟨k, hk, rfl, he, hb⟩ := hrel
        have k0 : (0 : Int) ≤ (k : Int) := by omega
        by_cases hlt : k < n
        · have k1 : (k : Int) < (n : Int) := by omega
          obtain ⟨g, o, x, rfl, hg, hx, d0, d1, hxm⟩ := lb_cells (H.out.on hb) hlt
          obtain ⟨hz1, hz2⟩ := H.out.sz x hxm
          have HX := hidden hx
          have HB := hidden hb
          have hbs := hb.size
          have HEA := hidden (errAt_of hx)
          have HBa := hidden (hb.alloc hbs (.cells #[.string x.name, .string x.value] 70))
          have HST := hidden (fun he' : errAt l k ≠ 0 => errUpto_stop he.out he' n (by omega))
          have S1 := hidden (fitName_any x.name (wr.alloc (.cells #[.string x.name, .string x.value] 70)) (by omega))
          have S2 := hidden (fitValue_any x.value (wr.alloc (.cells #[.string x.name, .string x.value] 70)) (by omega))
          clear hx hxm hb
          cases hf1 : fitN x.name with
          | false =>
            rw [hf1] at S1 HEA
            have HE : Hid (makeErr l = 40) := by
              have h40 : errAt l k = 40 := by rw [HEA.out]; rfl
              rw [Hid, HM.out, HST.out (by rw [h40]; decide), h40]
            have HL : Hid (makeL l = []) := by rw [Hid, makeL, if_neg (by rw [HE.out]; decide)]
            go_wp2_with fail
            refine S1.out.mono ?_
            rintro e w2 ⟨rfl, rfl⟩
            go_wp2_with fail
            go_ret2
            rw [HE.out, HL.out]
            exact ⟨_, rfl, World.ownsRow_nil _ _ _ _, HBa.out⟩
          | true =>
            rw [hf1] at S1 HEA
            cases hf2 : fitV x.value with
            | false =>
              rw [hf2] at S2 HEA
              have HE : Hid (makeErr l = 41) := by
                have h40 : errAt l k = 41 := by rw [HEA.out]; rfl
                rw [Hid, HM.out, HST.out (by rw [h40]; decide), h40]
              have HL : Hid (makeL l = []) := by rw [Hid, makeL, if_neg (by rw [HE.out]; decide)]
              go_wp2_with fail
              refine S1.out.mono ?_
              rintro e w2 ⟨rfl, rfl⟩
              go_wp2_with fail
              refine S2.out.mono ?_
              rintro e w2 ⟨rfl, rfl⟩
              go_wp2_with fail
              go_ret2
              rw [HE.out, HL.out]
              exact ⟨_, rfl, World.ownsRow_nil _ _ _ _, HBa.out⟩
            | true =>
              rw [hf2] at S2 HEA
              go_wp2_with fail
              refine S1.out.mono ?_
              rintro e w2 ⟨rfl, rfl⟩
              go_wp2_with fail
              refine S2.out.mono ?_
              rintro e w2 ⟨rfl, rfl⟩
              have kc : (k : Int) ≤ (c : Int) := by omega
              go_wp2_with fail
              have hrT := (H.out.on HBa.out).first hk
              have S3 := hidden (IdxLbl.contains_any (some ⟨g, o, none⟩) k c (l.take k) 105 #[.pointer (some ⟨wr.heap.size, 0, none⟩)] (fun y => decide (y.name = x.name)) _ e48 (fun y hy W hW => mkp_any y wr.heap.size x.name W ((hW.cell (p := ⟨wr.heap.size, 0, none⟩) (by simp)).trans ((Whole1.new wr _ _).cell 0))) hrT (by rw [List.length_take, H.out.len]; omega) (by omega))
              have hany : ((l.take k).any fun y => decide (y.name = x.name)) = decide (∃ y ∈ l.take k, y.name = x.name) := by
                rw [Bool.eq_iff_iff, List.any_eq_true, decide_eq_true_eq]; simp
              rw [hany] at S3
              by_cases htw : ∃ y ∈ l.take k, y.name = x.name
              · have HE : Hid (makeErr l = 42) := by
                  have h40 : errAt l k = 42 := by rw [HEA.out, if_neg (by decide), if_neg (by decide), if_pos htw]
                  rw [Hid, HM.out, HST.out (by rw [h40]; decide), h40]
                have HL : Hid (makeL l = []) := by rw [Hid, makeL, if_neg (by rw [HE.out]; decide)]
                rw [decide_eq_true htw] at S3
                clear hrT hany htw
                refine S3.out.mono ?_
                rintro e w3 ⟨rfl, b3⟩
                have HB3 := hidden (HBa.out.trans (b3.mono HBa.out.size))
                clear b3 S3
                go_wp2_with fail
                go_ret2
                rw [HE.out, HL.out]
                exact ⟨_, rfl, World.ownsRow_nil _ _ _ _, HB3.out⟩
              · have HN : Hid (errUpto l (k + 1) = 0) := errUpto_next he.out (by rw [HEA.out, if_neg (by decide), if_neg (by decide), if_neg htw])
                rw [decide_eq_false htw] at S3
                clear hrT hany htw
                refine S3.out.mono ?_
                rintro e w3 ⟨rfl, b3⟩
                have HB3 := hidden (HBa.out.trans (b3.mono HBa.out.size))
                clear b3 S3
                go_wp2_with fail
                go_roundw
                case rel => exact ⟨k + 1, by omega, by go_num, HN, HB3.out⟩
                case measure => simp [intOf]; omega
        · obtain rfl : n = k := by omega
          have k1 : ¬ (n : Int) < (n : Int) := by omega
          have HE : Hid (makeErr l = 0) := by rw [Hid, HM.out, he.out]
          have HL : Hid (makeL l = sortN l) := by rw [Hid, makeL, if_pos HE.out]
          have hap := make_apart (l := l) (by rw [H.out.len]; exact he.out)
          have HAP := hidden hap
          have HB := hidden hb
          have S1 := hidden (ClnLbl.cloneO_any A n c l wr (H.out.on hb).row H.out.len hfit)
          clear hb hap he
          go_wp2_with fail
          refine S1.out.mono ?_
          rintro e w2 ⟨⟨sA, sn, sc, sl⟩, rfl, hsl, hsn, _, _, hb2, hown⟩
          simp only at hsl hsn
          subst hsl hsn
          have HB2 := hidden (HB.out.trans (hb2.mono HB.out.size))
          have S2 := hidden (SrfLbl.sortAll_any _ sn wr.heap.size sl 90 #[] (fun x y => cmpB x.name y.name) w2 e51 swoN (fun g _ x _ y _ W _ => (byName_any x y W).mono fun _ _ k => k) (hown (by omega)) H.out.len (by omega))
          have HSN := hidden hown
          clear hb2 hown S1
          go_wp2_with fail
          refine S2.out.mono ?_
          rintro e w3 ⟨rfl, S, ⟨hp, hs⟩, hown3, hg3⟩
          have hap2 : S.Pairwise fun x y => x.name ≠ y.name := hp.symm.pairwise HAP.out fun h e => h e.symm
          have hup : upN S := (hs.and hap2).imp fun {x y} ⟨a, b⟩ => by
            simp only [decide_eq_false_iff_not] at a
            have t := tri_B.turn x.name y.name
            have z := tri_B.zero x.name y.name
            unfold ltN
            rcases tri_B.range x.name y.name with h | h | h
            · omega
            · exact absurd (z.1 h) b
            · omega
          have hS := hidden (sortN_uniq HAP.out hup hp)
          have hSl := hidden hp.length_eq
          have HB3 := hidden (HB2.out.grown hg3 HB2.out.size (fun j hj => by
            have h1 := (HSN.out (by omega)).lt j hj
            have := HB.out.size
            omega))
          have HO3 := hidden (own_more hown3 HB.out.size)
          clear hp hs hown3 hg3 hap2 hup S2
          go_wp2_with fail
          go_ret2
          have e1 := H.out.len
          rw [HE.out, HL.out, ← hS.out, hSl.out, e1]
          exact ⟨_, rfl, HO3.out, HB3.out⟩
end Go.Proofs.YthncochjhbmceaaGreat

namespace Go.Proofs.YthncochjhbmceaaGreat.TwnLbl
set_option maxRecDepth 100000
open Go.RowKit

theorem hk (x : Lbl) : x.cells.length = 2 := rfl
theorem rinfo : (Tryz.prog.info? 167).map (fun i => (i.zero, i.size, i.bytes)) = some (some (.agg #[.string ByteArray.empty, .string ByteArray.empty]), 2, 32) := by kernel_rfl
theorem snoc_cells (l : List Lbl) (x : Lbl) : (l ++ [x]).flatMap Lbl.cells = l.flatMap Lbl.cells ++ [.string x.name, .string x.value] := by simp [Lbl.cells]

end Go.Proofs.YthncochjhbmceaaGreat.TwnLbl

namespace Go.Proofs.YthncochjhbmceaaGreat
set_option maxRecDepth 100000
open Go.RowKit

theorem hkl (x : Lbl) : x.cells.length = 2 := rfl
/-- x put in at place j -/
def putAt (O : List Lbl) (j : Nat) (x : Lbl) : List Lbl := O.take j ++ x :: O.drop j
end Go.Proofs.YthncochjhbmceaaGreat
