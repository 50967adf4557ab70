/- 'append(s[:0:0], s...)': a copy. No condition but the reach. slices.Clone at labels: a copy of the call's own. Condition: the row is within the reach. slices.Clone at labels: a copy of the call's own. Condition: the row is within the reach. labels.Make, walked: the sorted set of labels, or its error. Condition: the row is within the reach. The law's helpers ref, twin, alike at labels: what they return. Condition: the rows are within the reach. The reference's Make, walked: the sorted set of labels, or its error. Condition: the row is within the reach. -/
import Derived.Test.YthncochjhbmceaaGreatPkb5fb2d9c
import Derived.ArgAppend
import Derived.Test.YthncochjhbmceaaGreatPk8f29ada1
import Derived.Test.YthncochjhbmceaaGreatPk69198d5e
import Derived.Test.YthncochjhbmceaaGreatPk00f17a61
import Derived.Test.YthncochjhbmceaaGreatPkf70546c0
import Derived.Test.YthncochjhbmceaaGreatPkc251b86b
import Derived.IntWalk
namespace Go.Proofs.YthncochjhbmceaaGreat
set_option maxRecDepth 100000
open Go.RowKit

section
variable {P : Program} (w : World)
theorem run_app_zero (t ty e : TypeId) (i : TypeInfo) (ht : P.underlying t = some (.slice e)) (hi : P.info? e = some i) (D A : Option Addr) (c k : Nat) :
    (Builtin.append_ #[t, t] ty #[.slice D 0 k, .slice A 0 c]).run P w = .ok (.slice D 0 k) w := by
  cases D <;> cases A <;> simp [Builtin.append_, run_underlying ht, sizeOf, typeInfo, hi, Builtin.lenOf, Builtin.firstCells, storeCells, loadCells, loadCellsFrom]

theorem run_clone (t ty e : TypeId) (i : TypeInfo) (z : Value) (size bytes : Nat) (ht : P.underlying t = some (.slice e)) (hi : P.info? e = some i) (hz : i.zero = some z)
    (hsize : i.size = size) (hby : i.bytes = bytes) (hzs : z.cells.size = size) (hsz : 0 < size) (D : Option Addr)
    (B : Nat) (A : Option Addr) (m c : Nat) (news : List Value) (hr : Row w B size A m news) (h1 : ∀ u ∈ news, u.oneCell' = true)
    (h63 : m ≤ maxLen) (hbytes : m * bytes ≤ 140737488355328) :
    ∃ v' w', (Builtin.append_ #[t, t] ty #[.slice D 0 0, .slice A m c]).run P w = .ok v' w' ∧ w.grownBy w' none ∧ ((m = 0 ∧ v' = .slice D 0 0) ∨ w'.ownsRow w.heap.size e size v' m news) := by
  rcases Nat.eq_zero_or_pos m with h0 | h0
  · subst h0
    exact ⟨_, w, run_app_zero w t ty e i ht hi D A c 0, gb_refl w _, .inl ⟨rfl, rfl⟩⟩
  · cases D with
    | none =>
      obtain ⟨v', w', hrun, h2, h3, _⟩ := run_app (P := P) w w.heap.size t ty e i z size bytes ht hi hz hsize hby hzs hsz (.slice none 0 0) 0 [] (World.ownsRow_nil _ _ _ _) B A m c news hr h1 (by omega) (by rw [Nat.zero_add]; exact hbytes) (Nat.le_refl _)
      exact ⟨v', w', hrun, h3, .inr (by simpa using h2)⟩
    | some b =>
      obtain ⟨g, o, rfl, _, hc⟩ := hr.at_ h0
      obtain ⟨v', w', hrun, h2, h3⟩ := run_append_arg_grows (P := P) w t ty e i z size bytes ht hi hz hsize hby hzs hsz b 0 0 [] (by simp) (by simp) ⟨g, o, none⟩ m c news hr.len
        (fun j u hu => by
          have hj : j < news.length := by
            rcases Nat.lt_or_ge j news.length with h | h
            · exact h
            · rw [List.getElem?_eq_none h] at hu; cases hu
          rw [Addr.add_lit, hc j (by rw [← hr.len]; exact hj)]; exact hu) (by omega) (by omega) (by rw [Nat.zero_add]; exact hbytes)
      exact ⟨v', w', hrun, h3, .inr (by simpa using h2)⟩
end

theorem wp_clone {P : Program} (w : World) {o : Oper} {a : Act} {K : Act → World → Prop} {Q : Exit → Act → World → Prop} (s x : Operand) (t : TypeId)
    (ho : o.op = .call { callee := .builtin .append, args := #[s, x], argTypes := #[t, t] })
    (e : TypeId) (i : TypeInfo) (z : Value) (size bytes : Nat) (ht : P.underlying t = some (.slice e)) (hi : P.info? e = some i) (hz : i.zero = some z)
    (hsize : i.size = size) (hby : i.bytes = bytes) (hzs : z.cells.size = size) (hsz : 0 < size) (D : Option Addr) (hs : a.eval s = .slice D 0 0)
    (B : Nat) (A : Option Addr) (m c : Nat) (news : List Value) (hx : a.eval x = .slice A m c) (hr : Row w B size A m news) (h1 : ∀ u ∈ news, u.oneCell' = true)
    (h63 : m ≤ maxLen) (hbytes : m * bytes ≤ 140737488355328)
    (h : ∀ v' w', w.grownBy w' none → ((m = 0 ∧ v' = .slice D 0 0) ∨ w'.ownsRow w.heap.size e size v' m news) → K (a.put o.dst v') w') : o.wp P a w K Q := by
  obtain ⟨v', w', hrun, h2, h3⟩ := run_clone (P := P) w t o.type e i z size bytes ht hi hz hsize hby hzs hsz D B A m c news hr h1 h63 hbytes
  unfold Oper.wp execOp
  simp only [ho, resolve, invoke, builtin, Sem.run_bind, Sem.run_pure, Result.andThen_ok, List.map_toArray, List.map_cons, List.map_nil, hs, hx, hrun]
  exact h v' w' h2 h3

theorem wpList_clone {P : Program} (w : World) {ops : Array Oper} {rest : List Oper} {o : Oper} {a : Act} {Q : Exit → Act → World → Prop} (hgd : o.guard = none) (s x : Operand) (t : TypeId)
    (ho : o.op = .call { callee := .builtin .append, args := #[s, x], argTypes := #[t, t] })
    (e : TypeId) (i : TypeInfo) (z : Value) (size bytes : Nat) (ht : P.underlying t = some (.slice e)) (hi : P.info? e = some i) (hz : i.zero = some z)
    (hsize : i.size = size) (hby : i.bytes = bytes) (hzs : z.cells.size = size) (hsz : 0 < size) (D : Option Addr) (hs : a.eval s = .slice D 0 0)
    (B : Nat) (A : Option Addr) (m c : Nat) (news : List Value) (hx : a.eval x = .slice A m c) (hr : Row w B size A m news) (h1 : ∀ u ∈ news, u.oneCell' = true)
    (h63 : m ≤ maxLen) (hbytes : m * bytes ≤ 140737488355328)
    (h : ∀ v' w', w.grownBy w' none → ((m = 0 ∧ v' = .slice D 0 0) ∨ w'.ownsRow w.heap.size e size v' m news) → wpList P ops Q rest (a.put o.dst v') w') : wpList P ops Q (o :: rest) a w :=
  wpList_plain hgd fun _ hK => wp_clone w s x t ho e i z size bytes ht hi hz hsize hby hzs hsz D hs B A m c news hx hr h1 h63 hbytes fun v' w' h2 h3 => hK _ _ (h v' w' h2 h3)
end Go.Proofs.YthncochjhbmceaaGreat

namespace Go.Proofs.YthncochjhbmceaaGreat
set_option maxRecDepth 100000
open Go.RowKit

/-! slices.Clone at labels -/
theorem info_lbl : (Tryz.prog.info? 70).map (fun i => (i.zero, i.size, i.bytes)) = some (some (.agg #[.string ByteArray.empty, .string ByteArray.empty]), 2, 32) := by kernel_rfl
theorem lblCells_one (l : List Lbl) : ∀ u ∈ lblCells l, u.oneCell' = true := by
  intro u hu
  simp only [lblCells, Lbl.cells, List.mem_flatMap, List.mem_cons, List.not_mem_nil, or_false] at hu
  obtain ⟨s, _, rfl | rfl⟩ := hu <;> rfl

set_option maxHeartbeats 1600000 in
theorem cloneLO_any (A : Option Addr) (n c : Nat) (l : List Lbl) (w : World) (hr : Row w w.heap.size 2 A n (lblCells l)) (hl : l.length = n) (hn : n * 32 ≤ 140737488351232) :
    Calls Tryz.prog 32 #[.slice A n c] w fun e w' => ∃ s : Sl Lbl, e = .returned s.val ∧ s.l = l ∧ s.n = n ∧ s.At w' w'.heap.size 2 Lbl.cells ∧ (∀ j, j < w.heap.size → s.Off (some j)) ∧ Below w.heap.size w w' ∧ (0 < n → w'.ownsRow w.heap.size 70 2 s.val n (lblCells l)) := by
  obtain ⟨i0, hi, hz0, hz1, hz2⟩ := info_parts info_lbl
  have hL := hidden hl
  clear hl
  cases A with
  | none =>
    have hn0 : n = 0 := by
      rcases Nat.eq_zero_or_pos n with h | h
      · exact h
      · obtain ⟨_, _, h', _⟩ := hr.at_ h
        cases h'
    subst hn0
    have h1 := fun w : World => Lib.run_eql_slice_nil (P := Tryz.prog) w 61 70 none 0 c 0 0 Tryz.underlying61
    go_enter Tryz.func32, Tryz.ntmps32
    go_wp2
    go_ret
    exact ⟨⟨none, 0, 0, l⟩, rfl, rfl, rfl, ⟨Nat.le_refl _, hL.out, hr⟩, fun j _ hn => by simp at hn, Below.refl _ _, fun h => absurd h (by omega)⟩
  | some a =>
    have h1 := fun w : World => Lib.run_eql_slice_nil (P := Tryz.prog) w 61 70 (some a) n c 0 0 Tryz.underlying61
    go_enter Tryz.func32, Tryz.ntmps32
    go_wp2_with (at_builtin; refine wpList_clone _ rfl _ _ 61 rfl 70 i0 _ 2 32 Tryz.underlying61 hi hz0 hz1 hz2 rfl (by decide) _ rfl w.heap.size _ _ _ _ rfl (hr.alloc (Nat.le_refl _) _) (lblCells_one l) (by unfold maxLen; omega) (by omega) ?_; intro v1 w1 hg1 hown1)
    go_ret
    have hb1 : Below w.heap.size w w1 := ((Below.refl _ _).alloc (Nat.le_refl _) _).grown hg1 (by simp) (fun j hj => by cases hj)
    rcases hown1 with ⟨rfl, rfl⟩ | hown1
    · have hl0 : l = [] := List.eq_nil_of_length_eq_zero hL.out
      subst hl0
      exact ⟨⟨_, 0, 0, []⟩, rfl, rfl, rfl, ⟨Nat.le_refl _, rfl, ⟨rfl, fun h => absurd h (by simp)⟩⟩, fun j _ hn => by simp at hn, hb1, fun h => absurd h (by omega)⟩
    · obtain ⟨A1, c1, rfl, hc1, hr1⟩ := own_shape hown1
      exact ⟨⟨A1, n, c1, l⟩, rfl, rfl, rfl, ⟨hc1, hL.out, hr1⟩, fun j hj => Sl.off_own hown1 (by simp; omega), hb1, fun _ => ⟨hown1.1, hown1.2.imp id fun ⟨g, cap, cur, h1, h2, h3⟩ => ⟨g, cap, cur, h1, by simp at h2; omega, h3⟩⟩⟩
theorem cloneL_any (A : Option Addr) (n c : Nat) (l : List Lbl) (w : World) (hr : Row w w.heap.size 2 A n (lblCells l)) (hl : l.length = n) (hn : n * 32 ≤ 140737488351232) :
    Calls Tryz.prog 32 #[.slice A n c] w fun e w' => ∃ s : Sl Lbl, e = .returned s.val ∧ s.l = l ∧ s.n = n ∧ s.At w' w'.heap.size 2 Lbl.cells ∧ (∀ j, j < w.heap.size → s.Off (some j)) ∧ Below w.heap.size w w' := by
  refine (cloneLO_any A n c l w hr hl hn).mono ?_
  rintro e w' ⟨s, h1, h2, h3, h4, h5, h6, _⟩
  exact ⟨s, h1, h2, h3, h4, h5, h6⟩
end Go.Proofs.YthncochjhbmceaaGreat

namespace Go.Proofs.YthncochjhbmceaaGreat.ClnLbl
set_option maxRecDepth 100000
open Go.RowKit

theorem info : (Tryz.prog.info? 70).map (fun i => (i.zero, i.size, i.bytes)) = some (some (.agg #[.string ByteArray.empty, .string ByteArray.empty]), 2, 32) := by kernel_rfl
theorem cells_one (l : List Lbl) : ∀ u ∈ l.flatMap Lbl.cells, u.oneCell' = true := by
  intro u hu
  simp only [Lbl.cells, List.mem_flatMap, List.mem_cons, List.not_mem_nil, or_false] at hu
  obtain ⟨s, _, rfl | rfl⟩ := hu <;> rfl

set_option maxHeartbeats 1600000 in
theorem cloneO_any (A : Option Addr) (n c : Nat) (l : List Lbl) (w : World) (hr : Row w w.heap.size 2 A n (l.flatMap Lbl.cells)) (hl : l.length = n) (hn : n * 32 ≤ 140737488351232) :
    Calls Tryz.prog 32 #[.slice A n c] w fun e w' => ∃ s : Sl Lbl, e = .returned s.val ∧ s.l = l ∧ s.n = n ∧ s.At w' w'.heap.size 2 Lbl.cells ∧ (∀ j, j < w.heap.size → s.Off (some j)) ∧ Below w.heap.size w w' ∧ (0 < n → w'.ownsRow w.heap.size 70 2 s.val n (l.flatMap Lbl.cells)) := by
  obtain ⟨i0, hi, hz0, hz1, hz2⟩ := info_parts info
  have hL := hidden hl
  clear hl
  cases A with
  | none =>
    have hn0 : n = 0 := by
      rcases Nat.eq_zero_or_pos n with h | h
      · exact h
      · obtain ⟨_, _, h', _⟩ := hr.at_ h
        cases h'
    subst hn0
    have h1 := fun w : World => Lib.run_eql_slice_nil (P := Tryz.prog) w 61 70 none 0 c 0 0 Tryz.underlying61
    go_enter Tryz.func32, Tryz.ntmps32
    go_wp2
    go_ret
    exact ⟨⟨none, 0, 0, l⟩, rfl, rfl, rfl, ⟨Nat.le_refl _, hL.out, hr⟩, fun j _ hn => by simp at hn, Below.refl _ _, fun h => absurd h (by omega)⟩
  | some a =>
    have h1 := fun w : World => Lib.run_eql_slice_nil (P := Tryz.prog) w 61 70 (some a) n c 0 0 Tryz.underlying61
    go_enter Tryz.func32, Tryz.ntmps32
    go_wp2_with (at_builtin; refine wpList_clone _ rfl _ _ 61 rfl 70 i0 _ 2 32 Tryz.underlying61 hi hz0 hz1 hz2 rfl (by decide) _ rfl w.heap.size _ _ _ _ rfl (hr.alloc (Nat.le_refl _) _) (cells_one l) (by unfold maxLen; omega) (by omega) ?_; intro v1 w1 hg1 hown1)
    go_ret
    have hb1 : Below w.heap.size w w1 := ((Below.refl _ _).alloc (Nat.le_refl _) _).grown hg1 (by simp) (fun j hj => by cases hj)
    rcases hown1 with ⟨rfl, rfl⟩ | hown1
    · have hl0 : l = [] := List.eq_nil_of_length_eq_zero hL.out
      subst hl0
      exact ⟨⟨_, 0, 0, []⟩, rfl, rfl, rfl, ⟨Nat.le_refl _, rfl, ⟨rfl, fun h => absurd h (by simp)⟩⟩, fun j _ hn => by simp at hn, hb1, fun h => absurd h (by omega)⟩
    · obtain ⟨A1, c1, rfl, hc1, hr1⟩ := own_shape hown1
      exact ⟨⟨A1, n, c1, l⟩, rfl, rfl, rfl, ⟨hc1, hL.out, hr1⟩, fun j hj => Sl.off_own hown1 (by simp; omega), hb1, fun _ => ⟨hown1.1, hown1.2.imp id fun ⟨g, cap, cur, h1, h2, h3⟩ => ⟨g, cap, cur, h1, by simp at h2; omega, h3⟩⟩⟩
theorem clone_any (A : Option Addr) (n c : Nat) (l : List Lbl) (w : World) (hr : Row w w.heap.size 2 A n (l.flatMap Lbl.cells)) (hl : l.length = n) (hn : n * 32 ≤ 140737488351232) :
    Calls Tryz.prog 32 #[.slice A n c] w fun e w' => ∃ s : Sl Lbl, e = .returned s.val ∧ s.l = l ∧ s.n = n ∧ s.At w' w'.heap.size 2 Lbl.cells ∧ (∀ j, j < w.heap.size → s.Off (some j)) ∧ Below w.heap.size w w' := by
  refine (cloneO_any A n c l w hr hl hn).mono ?_
  rintro e w' ⟨s, h1, h2, h3, h4, h5, h6, _⟩
  exact ⟨s, h1, h2, h3, h4, h5, h6⟩
end Go.Proofs.YthncochjhbmceaaGreat.ClnLbl

namespace Go.Proofs.YthncochjhbmceaaGreat
set_option maxRecDepth 100000
open Go.RowKit Go.Shelf Go.Sort

theorem mkp_any (x : Lbl) (g : Nat) (nm : ByteArray) (w : World) (hg : w.cell? ⟨g, 0, none⟩ = some (.string nm)) :
    Calls Tryz.prog 105 #[.agg #[.string x.name, .string x.value], .pointer (some ⟨g, 0, none⟩)] w fun e w' => e = .returned (.bool (decide (x.name = nm))) ∧ Below w.heap.size w w' := by
  have hg1 := gr_alloc_cell (.cells #[.string x.name, .string x.value] 70) hg
  have hb : Below w.heap.size w (w.alloc (.cells #[.string x.name, .string x.value] 70)) := (Below.refl _ _).alloc (Nat.le_refl _) _
  have hd : (x.name.toList == nm.toList) = decide (x.name = nm) := str_eq x.name nm
  have HB := hidden hb
  clear hb
  go_enter Tryz.func105, Tryz.ntmps105
  go_wp2_with fail
  go_ret
  exact ⟨rfl, HB.out⟩

theorem e51 : ∀ args w, (callFunc 90 args).run Tryz.prog w = .ok (.enter 90 args) w := enters_of Tryz.func90 (by kernel_rfl) rfl
theorem swoN : SWO fun x y : Lbl => decide (cmpB x.name y.name < 0) where
  irrefl x := tri_B.swo.irrefl x.name
  trans x y z := tri_B.swo.trans x.name y.name z.name
  ntrans x y z := tri_B.swo.ntrans x.name y.name z.name
theorem e48 : ∀ args w, (callFunc 105 args).run Tryz.prog w = .ok (.enter 105 args) w := enters_of Tryz.func105 (by kernel_rfl) rfl
set_option maxHeartbeats 3200000 in
theorem lmake_any (A : Option Addr) (n c : Nat) (l : List Lbl) (w : World) (h : LbF w A n l) (hnc : n ≤ c) :
    Calls Tryz.prog 60 #[.slice A n c] w fun e w' => ∃ v, e = .returned (.tuple #[v, .int .i64 (makeErr l)]) ∧ w'.ownsRow w.heap.size 70 2 v (makeL l).length ((makeL l).flatMap Lbl.cells) ∧ Below w.heap.size w w' := by
  have hfit := h.fit
  by_cases h0 : n = 0
  · subst h0
    obtain rfl : l = [] := List.eq_nil_of_length_eq_zero h.len
    go_enter Tryz.func60, Tryz.ntmps60
    go_wp2_with fail
    go_ret2
    exact ⟨_, rfl, World.ownsRow_nil _ _ _ _, Below.refl _ _⟩
  · have n0 : ((n : Int) == 0) = false := by simp; omega
    by_cases h8 : 8 < n
    · have n8 : (8 : Int) < (n : Int) := by omega
      have HE : Hid (makeErr l = 44) := by rw [Hid, makeErr, if_neg (by rw [h.len]; omega), if_pos (by rw [h.len]; omega)]
      have HL : Hid (makeL l = []) := by rw [Hid, makeL, if_neg (by rw [HE.out]; decide)]
      clear h
      go_enter Tryz.func60, Tryz.ntmps60
      go_wp2_with fail
      go_ret2
      rw [HE.out, HL.out]
      exact ⟨_, rfl, World.ownsRow_nil _ _ _ _, Below.refl _ _⟩
    · have n8 : ¬ (8 : Int) < (n : Int) := by omega
      have H := hidden h
      have HM : Hid (makeErr l = errUpto l n) := by rw [Hid, makeErr, if_neg (by rw [h.len]; omega), if_neg (by rw [h.len]; omega), h.len]
      clear h
      go_enter Tryz.func60, Tryz.ntmps60
      go_wp2_with fail
      go_loopw [17] (fun vi wr => ∃ k : Nat, k ≤ n ∧ vi = .int .i64 k ∧ Hid (errUpto l k = 0) ∧ Below w.heap.size w wr) (fun vi _ => n - (intOf vi).toNat)
      case atStart => exact ⟨0, Nat.zero_le _, rfl, rfl, Below.refl _ _⟩
      case round =>
        obtain ⟨k, hk, rfl, he, hb⟩ := hrel
        have k0 : (0 : Int) ≤ (k : Int) := by omega
        by_cases hlt : k < n
        · have k1 : (k : Int) < (n : Int) := by omega
          obtain ⟨g, o, x, rfl, hg, hx, d0, d1, hxm⟩ := lb_cells (H.out.on hb) hlt
          obtain ⟨hz1, hz2⟩ := H.out.sz x hxm
          have HX := hidden hx
          have HB := hidden hb
          have hbs := hb.size
          have HEA := hidden (errAt_of hx)
          have HBa := hidden (hb.alloc hbs (.cells #[.string x.name, .string x.value] 70))
          have HST := hidden (fun he' : errAt l k ≠ 0 => errUpto_stop he.out he' n (by omega))
          have S1 := hidden (fitName_any x.name (wr.alloc (.cells #[.string x.name, .string x.value] 70)) (by omega))
          have S2 := hidden (fitValue_any x.value (wr.alloc (.cells #[.string x.name, .string x.value] 70)) (by omega))
          clear hx hxm hb
          cases hf1 : fitN x.name with
          | false =>
            rw [hf1] at S1 HEA
            have HE : Hid (makeErr l = 40) := by
              have h40 : errAt l k = 40 := by rw [HEA.out]; rfl
              rw [Hid, HM.out, HST.out (by rw [h40]; decide), h40]
            have HL : Hid (makeL l = []) := by rw [Hid, makeL, if_neg (by rw [HE.out]; decide)]
            go_wp2_with fail
            refine S1.out.mono ?_
            rintro e w2 ⟨rfl, rfl⟩
            go_wp2_with fail
            go_ret2
            rw [HE.out, HL.out]
            exact ⟨_, rfl, World.ownsRow_nil _ _ _ _, HBa.out⟩
          | true =>
            rw [hf1] at S1 HEA
            cases hf2 : fitV x.value with
            | false =>
              rw [hf2] at S2 HEA
              have HE : Hid (makeErr l = 41) := by
                have h40 : errAt l k = 41 := by rw [HEA.out]; rfl
                rw [Hid, HM.out, HST.out (by rw [h40]; decide), h40]
              have HL : Hid (makeL l = []) := by rw [Hid, makeL, if_neg (by rw [HE.out]; decide)]
              go_wp2_with fail
              refine S1.out.mono ?_
              rintro e w2 ⟨rfl, rfl⟩
              go_wp2_with fail
              refine S2.out.mono ?_
              rintro e w2 ⟨rfl, rfl⟩
              go_wp2_with fail
              go_ret2
              rw [HE.out, HL.out]
              exact ⟨_, rfl, World.ownsRow_nil _ _ _ _, HBa.out⟩
            | true =>
              rw [hf2] at S2 HEA
              go_wp2_with fail
              refine S1.out.mono ?_
              rintro e w2 ⟨rfl, rfl⟩
              go_wp2_with fail
              refine S2.out.mono ?_
              rintro e w2 ⟨rfl, rfl⟩
              have kc : (k : Int) ≤ (c : Int) := by omega
              go_wp2_with fail
              have hrT := (H.out.on HBa.out).first hk
              have S3 := hidden (IdxLbl.contains_any (some ⟨g, o, none⟩) k c (l.take k) 105 #[.pointer (some ⟨wr.heap.size, 0, none⟩)] (fun y => decide (y.name = x.name)) _ e48 (fun y hy W hW => mkp_any y wr.heap.size x.name W ((hW.cell (p := ⟨wr.heap.size, 0, none⟩) (by simp)).trans ((Whole1.new wr _ _).cell 0))) hrT (by rw [List.length_take, H.out.len]; omega) (by omega))
              have hany : ((l.take k).any fun y => decide (y.name = x.name)) = decide (∃ y ∈ l.take k, y.name = x.name) := by
                rw [Bool.eq_iff_iff, List.any_eq_true, decide_eq_true_eq]; simp
              rw [hany] at S3
              by_cases htw : ∃ y ∈ l.take k, y.name = x.name
              · have HE : Hid (makeErr l = 42) := by
                  have h40 : errAt l k = 42 := by rw [HEA.out, if_neg (by decide), if_neg (by decide), if_pos htw]
                  rw [Hid, HM.out, HST.out (by rw [h40]; decide), h40]
                have HL : Hid (makeL l = []) := by rw [Hid, makeL, if_neg (by rw [HE.out]; decide)]
                rw [decide_eq_true htw] at S3
                clear hrT hany htw
                refine S3.out.mono ?_
                rintro e w3 ⟨rfl, b3⟩
                have HB3 := hidden (HBa.out.trans (b3.mono HBa.out.size))
                clear b3 S3
                go_wp2_with fail
                go_ret2
                rw [HE.out, HL.out]
                exact ⟨_, rfl, World.ownsRow_nil _ _ _ _, HB3.out⟩
              · have HN : Hid (errUpto l (k + 1) = 0) := errUpto_next he.out (by rw [HEA.out, if_neg (by decide), if_neg (by decide), if_neg htw])
                rw [decide_eq_false htw] at S3
                clear hrT hany htw
                refine S3.out.mono ?_
                rintro e w3 ⟨rfl, b3⟩
                have HB3 := hidden (HBa.out.trans (b3.mono HBa.out.size))
                clear b3 S3
                go_wp2_with fail
                go_roundw
                case rel => exact ⟨k + 1, by omega, by go_num, HN, HB3.out⟩
                case measure => simp [intOf]; omega
        · obtain rfl : n = k := by omega
          have k1 : ¬ (n : Int) < (n : Int) := by omega
          have HE : Hid (makeErr l = 0) := by rw [Hid, HM.out, he.out]
          have HL : Hid (makeL l = sortN l) := by rw [Hid, makeL, if_pos HE.out]
          have hap := make_apart (l := l) (by rw [H.out.len]; exact he.out)
          have HAP := hidden hap
          have HB := hidden hb
          have S1 := hidden (ClnLbl.cloneO_any A n c l wr (H.out.on hb).row H.out.len hfit)
          clear hb hap he
          go_wp2_with fail
          refine S1.out.mono ?_
          rintro e w2 ⟨⟨sA, sn, sc, sl⟩, rfl, hsl, hsn, _, _, hb2, hown⟩
          simp only at hsl hsn
          subst hsl hsn
          have HB2 := hidden (HB.out.trans (hb2.mono HB.out.size))
          have S2 := hidden (SrfLbl.sortAll_any _ sn wr.heap.size sl 90 #[] (fun x y => cmpB x.name y.name) w2 e51 swoN (fun g _ x _ y _ W _ => (byName_any x y W).mono fun _ _ k => k) (hown (by omega)) H.out.len (by omega))
          have HSN := hidden hown
          clear hb2 hown S1
          go_wp2_with fail
          refine S2.out.mono ?_
          rintro e w3 ⟨rfl, S, ⟨hp, hs⟩, hown3, hg3⟩
          have hap2 : S.Pairwise fun x y => x.name ≠ y.name := hp.symm.pairwise HAP.out fun h e => h e.symm
          have hup : upN S := (hs.and hap2).imp fun {x y} ⟨a, b⟩ => by
            simp only [decide_eq_false_iff_not] at a
            have t := tri_B.turn x.name y.name
            have z := tri_B.zero x.name y.name
            unfold ltN
            rcases tri_B.range x.name y.name with h | h | h
            · omega
            · exact absurd (z.1 h) b
            · omega
          have hS := hidden (sortN_uniq HAP.out hup hp)
          have hSl := hidden hp.length_eq
          have HB3 := hidden (HB2.out.grown hg3 HB2.out.size (fun j hj => by
            have h1 := (HSN.out (by omega)).lt j hj
            have := HB.out.size
            omega))
          have HO3 := hidden (own_more hown3 HB.out.size)
          clear hp hs hown3 hg3 hap2 hup S2
          go_wp2_with fail
          go_ret2
          have e1 := H.out.len
          rw [HE.out, HL.out, ← hS.out, hSl.out, e1]
          exact ⟨_, rfl, HO3.out, HB3.out⟩
end Go.Proofs.YthncochjhbmceaaGreat

namespace Go.Proofs.YthncochjhbmceaaGreat.TwnLbl
set_option maxRecDepth 100000
open Go.RowKit

theorem hk (x : Lbl) : x.cells.length = 2 := rfl
theorem rinfo : (Tryz.prog.info? 167).map (fun i => (i.zero, i.size, i.bytes)) = some (some (.agg #[.string ByteArray.empty, .string ByteArray.empty]), 2, 32) := by kernel_rfl
theorem snoc_cells (l : List Lbl) (x : Lbl) : (l ++ [x]).flatMap Lbl.cells = l.flatMap Lbl.cells ++ [.string x.name, .string x.value] := by simp [Lbl.cells]

end Go.Proofs.YthncochjhbmceaaGreat.TwnLbl

namespace Go.Proofs.YthncochjhbmceaaGreat
set_option maxRecDepth 100000
open Go.RowKit

theorem hkl (x : Lbl) : x.cells.length = 2 := rfl
/-- x put in at place j -/
def putAt (O : List Lbl) (j : Nat) (x : Lbl) : List Lbl := O.take j ++ x :: O.drop j
theorem putAt_len (O : List Lbl) (j : Nat) (x : Lbl) : (putAt O j x).length = O.length + 1 := by simp [putAt]; omega
theorem putAt_end (O : List Lbl) (x : Lbl) : putAt O O.length x = O ++ [x] := by simp [putAt]
theorem putAt_here {O : List Lbl} {j : Nat} {x : Lbl} (hj : j ≤ O.length) : (putAt O j x)[j]? = some x := by
  rw [putAt, List.getElem?_append_right (by rw [List.length_take]; omega), List.length_take, Nat.min_eq_left hj, Nat.sub_self]; rfl
theorem putAt_before {O : List Lbl} {j : Nat} {x y : Lbl} (hy : O[j]? = some y) : (putAt O (j + 1) x)[j]? = some y := by
  have hj := (List.getElem?_eq_some_iff.1 hy).1
  rw [putAt, List.getElem?_append_left (by rw [List.length_take]; omega), List.getElem?_take_of_lt (by omega), hy]
theorem putAt_swap {O : List Lbl} {j : Nat} {x y : Lbl} (hy : O[j]? = some y) : ((putAt O (j + 1) x).set (j + 1) y).set j x = putAt O j x := by
  obtain ⟨hj, he⟩ := List.getElem?_eq_some_iff.1 hy
  have e1 : O.take (j + 1) = O.take j ++ [y] := take_snoc? hy
  have e2 : O.drop j = y :: O.drop (j + 1) := by rw [List.drop_eq_getElem_cons hj, he]
  have hl : (O.take (j + 1)).length = j + 1 := by rw [List.length_take]; omega
  have hl2 : (O.take j).length = j := by rw [List.length_take]; omega
  rw [putAt, List.set_append_right _ _ (by omega), hl, Nat.sub_self, List.set_cons_zero, putAt, e1, e2, List.append_assoc, List.set_append_right _ _ (by omega), hl2, Nat.sub_self]
  rfl
theorem putAt_up {O : List Lbl} (h : upN O) {j : Nat} {x : Lbl} (hlo : ∀ y, 0 < j → O[j - 1]? = some y → ltN y x) (hhi : ∀ y ∈ O.drop j, ltN x y) (hj : j ≤ O.length) : upN (putAt O j x) := by
  have hs : O = O.take j ++ O.drop j := (List.take_append_drop j O).symm
  have hp := h
  unfold upN at hp
  rw [hs] at hp
  obtain ⟨p1, p2, p3⟩ := List.pairwise_append.1 hp
  unfold upN putAt
  rw [List.pairwise_append]
  have htk : ∀ a ∈ O.take j, ltN a x := fun a ha => by
    obtain ⟨i, hi⟩ := List.mem_iff_getElem?.1 ha
    have hil := (List.getElem?_eq_some_iff.1 hi).1
    have hij : i < j := by rw [List.length_take] at hil; omega
    rw [List.getElem?_take_of_lt hij] at hi
    obtain ⟨z, hz⟩ : ∃ z, O[j - 1]? = some z := ⟨_, List.getElem?_eq_getElem (by omega)⟩
    have hzx := hlo z (by omega) hz
    by_cases e : i = j - 1
    · subst e; have := hi.symm.trans hz; cases this; exact hzx
    · obtain ⟨i1, i2⟩ := List.getElem?_eq_some_iff.1 hi
      obtain ⟨z1, z2⟩ := List.getElem?_eq_some_iff.1 hz
      have haz : ltN a z := by
        have := List.pairwise_iff_getElem.1 h i (j - 1) i1 z1 (by omega)
        rw [i2, z2] at this; exact this
      exact ltN_trans haz hzx
  refine ⟨p1, List.pairwise_cons.2 ⟨hhi, p2⟩, fun a ha b hb => ?_⟩
  rcases List.mem_cons.1 hb with rfl | hb
  · exact htk a ha
  · exact p3 a ha b hb
theorem putAt_perm (O : List Lbl) (j : Nat) (x : Lbl) : (putAt O j x).Perm (O ++ [x]) := by
  unfold putAt
  have h1 : (O.take j ++ x :: O.drop j).Perm (x :: (O.take j ++ O.drop j)) := List.perm_middle
  rw [List.take_append_drop] at h1
  exact h1.trans (List.perm_append_singleton x O).symm

set_option maxHeartbeats 12800000 in
theorem rmake_any (A : Option Addr) (n c : Nat) (l : List Lbl) (w : World) (h : LbF w A n l) :
    Calls Tryz.prog 118 #[.slice A n c] w fun e w' => ∃ v, e = .returned (.tuple #[v, .int .i64 (makeErr l)]) ∧ w'.ownsRow w.heap.size 167 2 v (makeL l).length ((makeL l).flatMap Lbl.cells) ∧ Below w.heap.size w w' := by
  have hfit := h.fit
  by_cases h0 : n = 0
  · subst h0
    obtain rfl : l = [] := List.eq_nil_of_length_eq_zero h.len
    go_enter Tryz.func118, Tryz.ntmps118
    go_wp2_with fail
    go_ret2
    exact ⟨_, rfl, World.ownsRow_nil _ _ _ _, Below.refl _ _⟩
  · have n0 : ((n : Int) == 0) = false := by simp; omega
    by_cases h8 : 8 < n
    · have n8 : (8 : Int) < (n : Int) := by omega
      have HE : Hid (makeErr l = 44) := by rw [Hid, makeErr, if_neg (by rw [h.len]; omega), if_pos (by rw [h.len]; omega)]
      have HL : Hid (makeL l = []) := by rw [Hid, makeL, if_neg (by rw [HE.out]; decide)]
      clear h
      go_enter Tryz.func118, Tryz.ntmps118
      go_wp2_with fail
      go_ret2
      rw [HE.out, HL.out]
      exact ⟨_, rfl, World.ownsRow_nil _ _ _ _, Below.refl _ _⟩
    · have n8 : ¬ (8 : Int) < (n : Int) := by omega
      have H := hidden h
      have HM : Hid (makeErr l = errUpto l n) := by rw [Hid, makeErr, if_neg (by rw [h.len]; omega), if_neg (by rw [h.len]; omega), h.len]
      obtain ⟨i0, hi, hz0, hz1, hz2⟩ := info_parts TwnLbl.rinfo
      clear h
      go_enter Tryz.func118, Tryz.ntmps118
      go_wp2_with fail
      go_loopw [4, 5] (fun vo vi wr => ∃ (k : Nat) (O : List Lbl) (v : Value), v = vo ∧ k ≤ n ∧ vi = .int .i64 k ∧ Hid (errUpto l k = 0) ∧ Hid (upN O) ∧ Hid (O.Perm (l.take k)) ∧ wr.ownsRow w.heap.size 167 2 v k (O.flatMap Lbl.cells) ∧ Below w.heap.size w wr) (fun _ vi _ => n - (intOf vi).toNat)
      case atStart => exact ⟨0, [], _, rfl, Nat.zero_le _, rfl, rfl, List.Pairwise.nil, hidden (by simp), World.ownsRow_nil _ _ _ _, Below.refl _ _⟩
      case round =>
        obtain ⟨k, O, v, rfl, hk, rfl, he, hO, hP, hown, hb⟩ := hrel
        obtain ⟨A1, c1, rfl, _, _⟩ := own_shape hown
        have k0 : (0 : Int) ≤ (k : Int) := by omega
        by_cases hlt : k < n
        · have k1 : (k : Int) < (n : Int) := by omega
          obtain ⟨g, o, x, rfl, hg, hx, d0, d1, hxm⟩ := lb_cells (H.out.on hb) hlt
          obtain ⟨hz1', hz2'⟩ := H.out.sz x hxm
          have HX := hidden hx
          have HB := hidden hb
          have hbs := hb.size
          have HEA := hidden (errAt_of hx)
          have HST := hidden (fun he' : errAt l k ≠ 0 => errUpto_stop he.out he' n (by omega))
          have S1 := hidden (rfitName_any x.name wr (by omega))
          have S2 := hidden (rfitValue_any x.value wr (by omega))
          have HOW := hidden hown
          clear hx hxm hb hown
          cases hf1 : fitN x.name with
          | false =>
            rw [hf1] at S1 HEA
            have HE : Hid (makeErr l = 40) := by
              have h40 : errAt l k = 40 := by rw [HEA.out]; rfl
              rw [Hid, HM.out, HST.out (by rw [h40]; decide), h40]
            have HL : Hid (makeL l = []) := by rw [Hid, makeL, if_neg (by rw [HE.out]; decide)]
            go_wp2_with fail
            refine S1.out.mono ?_
            rintro e w2 ⟨rfl, rfl⟩
            go_wp2_with fail
            refine S2.out.mono ?_
            rintro e w2 ⟨rfl, rfl⟩
            go_wp2_with fail
            go_ret2
            rw [HE.out, HL.out]
            exact ⟨_, rfl, World.ownsRow_nil _ _ _ _, HB.out⟩
          | true =>
            rw [hf1] at S1 HEA
            cases hf2 : fitV x.value with
            | false =>
              rw [hf2] at S2 HEA
              have HE : Hid (makeErr l = 41) := by
                have h40 : errAt l k = 41 := by rw [HEA.out]; rfl
                rw [Hid, HM.out, HST.out (by rw [h40]; decide), h40]
              have HL : Hid (makeL l = []) := by rw [Hid, makeL, if_neg (by rw [HE.out]; decide)]
              go_wp2_with fail
              refine S1.out.mono ?_
              rintro e w2 ⟨rfl, rfl⟩
              go_wp2_with fail
              refine S2.out.mono ?_
              rintro e w2 ⟨rfl, rfl⟩
              go_wp2_with fail
              go_ret2
              rw [HE.out, HL.out]
              exact ⟨_, rfl, World.ownsRow_nil _ _ _ _, HB.out⟩
            | true =>
              rw [hf2] at S2 HEA
              go_wp2_with fail
              refine S1.out.mono ?_
              rintro e w2 ⟨rfl, rfl⟩
              go_wp2_with fail
              refine S2.out.mono ?_
              rintro e w2 ⟨rfl, rfl⟩
              go_wp2_with fail
              generalize wr = wo at *
              go_loopw [8] (fun vj wz => ∃ (j q : Nat), vj = .int .i64 j ∧ j ≤ k ∧ Hid (∀ y ∈ l.take j, y.name ≠ x.name) ∧ wz = wo.drewN q) (fun vj _ => k - (intOf vj).toNat)
              case atStart => exact ⟨0, 0, rfl, Nat.zero_le _, hidden (by simp), rfl⟩
              case round =>
                obtain ⟨j, q, rfl, hj, hno, rfl⟩ := hrel
                have j0 : (0 : Int) ≤ (j : Int) := by omega
                by_cases hjl : j < k
                · have j1 : (j : Int) < (k : Int) := by omega
                  have j2 : (j : Int) < (n : Int) := by omega
                  obtain ⟨g', o', y, he', _, hy, f0, _, _⟩ := lb_cells (H.out.on HB.out) (show j < n by omega)
                  simp only [Option.some.injEq, Addr.mk.injEq, and_true] at he'
                  obtain ⟨rfl, rfl⟩ := he'
                  have HY := hidden hy
                  have hsq := str_eq y.name x.name
                  clear hy
                  by_cases hyx : y.name = x.name
                  · rw [decide_eq_true hyx] at hsq
                    have HE : Hid (makeErr l = 42) := by
                      have h40 : errAt l k = 42 := by
                        rw [HEA.out, if_neg (by decide), if_neg (by decide), if_pos ⟨y, List.mem_iff_getElem?.2 ⟨j, by rw [List.getElem?_take_of_lt hjl]; exact HY.out⟩, hyx⟩]
                      rw [Hid, HM.out, HST.out (by rw [h40]; decide), h40]
                    have HL : Hid (makeL l = []) := by rw [Hid, makeL, if_neg (by rw [HE.out]; decide)]
                    clear hyx
                    go_wp2_with fail
                    go_quiet (fail)
                    go_wp2_with fail
                    go_ret2
                    rw [HE.out, HL.out]
                    exact ⟨_, rfl, World.ownsRow_nil _ _ _ _, below_drewN (below_drewN HB.out _) _⟩
                  · rw [decide_eq_false hyx] at hsq
                    have hno2 : Hid (∀ z ∈ l.take (j + 1), z.name ≠ x.name) := fun z hz => by
                      rw [take_snoc? HY.out, List.mem_append, List.mem_singleton] at hz
                      rcases hz with hz | rfl
                      · exact hno.out z hz
                      · exact hyx
                    clear hyx
                    go_wp2_with fail
                    go_quiet (fail)
                    go_wp2_with fail
                    go_roundw
                    case rel => exact ⟨j + 1, _, by go_num, by omega, hno2, by first | rfl | (simp only [World.drewN_drewN]; rfl)⟩
                    case measure => simp [intOf]; omega
                · obtain rfl : k = j := by omega
                  have j1 : ¬ (k : Int) < (k : Int) := by omega
                  have HN : Hid (errUpto l (k + 1) = 0) := errUpto_next he.out (by rw [HEA.out, if_neg (by decide), if_neg (by decide), if_neg (fun ⟨y, hy, e⟩ => hno.out y hy e)])
                  have how := own_drewN HOW.out q
                  have HBq := hidden (below_drewN HB.out q)
                  have e0 : (wo.drewN q).cell? ⟨g, o + k * 2, none⟩ = some (.string x.name) := d0
                  have e1 : (wo.drewN q).cell? ⟨g, o + k * 2 + 1, none⟩ = some (.string x.value) := d1
                  clear d0 d1
                  have HNM : Hid (∀ y ∈ O, y.name ≠ x.name) := fun y hy => hno.out y (hP.out.mem_iff.1 hy)
                  have hOl : Hid (O.length = k) := by
                    have := hP.out.length_eq
                    rw [List.length_take, H.out.len] at this; rw [Hid]; omega
                  have HPP : Hid ((O ++ [x]).Perm (l.take (k + 1))) := by rw [Hid, take_snoc? HX.out]; exact hP.out.append_right _
                  clear hno hP
                  generalize wo.drewN q = w2 at *
                  have hfr := Row.fresh w2 167 2 1 [.string x.name, .string x.value] rfl
                  have hbs2 := HBq.out.size
                  go_wp2_with (at_builtin; refine wpList_app _ rfl _ _ 83 rfl w.heap.size 167 i0 _ 2 32 Tryz.underlying83 hi hz0 hz1 hz2 rfl (by decide) _ _ _ rfl (how.alloc _) _ _ _ _ _ rfl hfr (by simp [Value.oneCell']) (by unfold maxLen; omega) (by omega) (by simp; omega) ?_; intro v1 w3 hown3 hg3 hat3)
                  have hcs : O.flatMap Lbl.cells ++ [.string x.name, .string x.value] = (putAt O k x).flatMap Lbl.cells := by
                    have := putAt_end O x
                    rw [hOl.out] at this
                    rw [this, List.flatMap_append]; simp [Lbl.cells]
                  rw [hcs] at hown3
                  have hb4 : Below w.heap.size w w3 := (HBq.out.alloc hbs2 _).grown hg3 (by simp; omega) (fun j hj => (how.lt j hj).1)
                  obtain ⟨g9, cap9, rest9, rfl, hgb9, hW9, hnc9, hcap9, _, hm9⟩ := own_whole_g hkl hown3 (by omega)
                  have HW9 := hidden hW9
                  have HB4 := hidden hb4
                  have HM9 := hidden (And.intro hgb9 (And.intro hnc9 (And.intro hcap9 hm9)))
                  clear hown3 hg3 hat3 hW9 hb4 hgb9 hnc9 hcap9 hm9 hfr how hcs e0 e1
                  obtain ⟨N, hN⟩ : ∃ N, k + 1 = N := ⟨_, rfl⟩
                  have HN1 := hidden hN
                  rw [hN]
                  clear hN
                  have hle : (Builtin.len_ #[83] 3 #[.slice (some ⟨g9, 0, none⟩) N cap9]).run Tryz.prog w3 = .ok (.int .i64 N) w3 := by simp [Builtin.len_, go_sem]
                  go_wp2_with fail
                  simp only [hle, Result.andThen]
                  rw [Oper.upon_value]
                  go_wp2_with fail
                  have hNk : (N : Int) - 1 = (k : Int) := by have := HN1.out; omega
                  go_loopw [9] (fun vj wz => ∃ j : Nat, vj = .int .i64 j ∧ j ≤ k ∧ Hid (Whole1 wz g9 167 ((putAt O j x).flatMap Lbl.cells ++ rest9).toArray) ∧ Hid (∀ y ∈ O.drop j, ltN x y) ∧ w3.grownBy wz (some g9)) (fun vj _ => (intOf vj).toNat)
                  case atStart => exact ⟨k, congrArg (Value.int .i64) (by have := HN1.out; unfold wrap64; omega), Nat.le_refl _, HW9, hidden (by rw [List.drop_of_length_le (by rw [hOl.out]; exact Nat.le_refl _)]; simp), gb_refl _ _⟩
                  case round =>
                    obtain ⟨j, rfl, hjk, hWj, hhi, hgj⟩ := hrel
                    have HGJ := hidden hgj
                    have HBJ := hidden (below_gb HB4.out hgj HB4.out.size HM9.out.1)
                    clear hgj
                    by_cases hj0 : 0 < j
                    · obtain ⟨j', rfl⟩ : ∃ j', j = j' + 1 := ⟨j - 1, by omega⟩
                      obtain ⟨y, hy⟩ : ∃ y, O[j']? = some y := ⟨_, List.getElem?_eq_getElem (by have := hOl.out; omega)⟩
                      have a0 : wr.cell? ⟨g9, (j' + 1) * 2, none⟩ = some (.string x.name) := whole_at hkl hWj.out (putAt_here (by have := hOl.out; omega)) 0 (by omega)
                      have a1 : wr.cell? ⟨g9, (j' + 1) * 2 + 1, none⟩ = some (.string x.value) := whole_at hkl hWj.out (putAt_here (by have := hOl.out; omega)) 1 (by omega)
                      have c0 : wr.cell? ⟨g9, j' * 2, none⟩ = some (.string y.name) := whole_at hkl hWj.out (putAt_before hy) 0 (by omega)
                      have c1' : wr.cell? ⟨g9, j' * 2 + 1, none⟩ = some (.string y.value) := whole_at hkl hWj.out (putAt_before hy) 1 (by omega)
                      have HY := hidden hy
                      have b0 : (0 : Int) < ((j' + 1 : Nat) : Int) := by omega
                      have b1 : ((j' + 1 : Nat) : Int) - 1 = (j' : Int) := by omega
                      have b2 : IntKind.i64.wrap (j' : Int) = (j' : Int) := Go.IntWalk.i64_in _ (by omega)
                      have b3 : ((j' + 1 : Nat) : Int) < (N : Int) := by have := HN1.out; omega
                      have b4 : (j' : Int) < (N : Int) := by have := HN1.out; omega
                      have b5 : j' + 1 < N := by have := HN1.out; omega
                      have b6 : j' < N := by have := HN1.out; omega
                      have b7 : (0 : Int) ≤ (j' : Int) := by omega
                      have b8 : (0 : Int) ≤ ((j' + 1 : Nat) : Int) := by omega
                      clear hy
                      rcases str_cases x.name y.name with ⟨hlt2, _, hcm⟩ | ⟨heq, _⟩ | ⟨hlt2, hge2, _, hcm⟩
                      · have HLT : Hid (ltN x y) := by rw [Hid, ltN, hcm]; decide
                        go_wp2_with fail
                        go_quiet (fail)
                        rename_i nq
                        have HWq := hidden (hWj.out.drewN nq)
                        have HGq := hidden (gb_drewN HGJ.out nq)
                        clear a0 a1 c0 c1' hlt2 hcm
                        generalize wr.drewN nq = wq at HWq HGq ⊢
                        have a0 : wq.cell? ⟨g9, (j' + 1) * 2, none⟩ = some (.string x.name) := whole_at hkl HWq.out (putAt_here (by have := hOl.out; omega)) 0 (by omega)
                        have a1 : wq.cell? ⟨g9, (j' + 1) * 2 + 1, none⟩ = some (.string x.value) := whole_at hkl HWq.out (putAt_here (by have := hOl.out; omega)) 1 (by omega)
                        have hWa := HWq.out.alloc (.cells #[.string x.name, .string x.value] 167)
                        have c0 : (wq.alloc (.cells #[.string x.name, .string x.value] 167)).cell? ⟨g9, j' * 2, none⟩ = some (.string y.name) := whole_at hkl hWa (putAt_before HY.out) 0 (by omega)
                        have c1' : (wq.alloc (.cells #[.string x.name, .string x.value] 167)).cell? ⟨g9, j' * 2 + 1, none⟩ = some (.string y.value) := whole_at hkl hWa (putAt_before HY.out) 1 (by omega)
                        have b0' : (wq.alloc (.cells #[.string x.name, .string x.value] 167)).cell? ⟨g9, (j' + 1) * 2, none⟩ = some (.string x.name) := whole_at hkl hWa (putAt_here (by have := hOl.out; omega)) 0 (by omega)
                        have b1' : (wq.alloc (.cells #[.string x.name, .string x.value] 167)).cell? ⟨g9, (j' + 1) * 2 + 1, none⟩ = some (.string x.value) := whole_at hkl hWa (putAt_here (by have := hOl.out; omega)) 1 (by omega)
                        have f0 := hWa.free ((j' + 1) * 2)
                        have f1 := hWa.free ((j' + 1) * 2 + 1)
                        have f2 := hWa.free (j' * 2)
                        have f3 := hWa.free (j' * 2 + 1)
                        have hWs := puts_elem hkl hWa (i := j' + 1) (by rw [putAt_len]; have := hOl.out; omega) y
                        have hXs := (Whole1.new wq 167 #[.string x.name, .string x.value]).grown (puts_gb (g := g9) y.cells ((j' + 1) * 2) _) (fun e => by injection e with e; have := HWq.out.lt; omega)
                        have hWt := puts_elem hkl hWs (i := j') (by rw [List.length_set, putAt_len]; have := hOl.out; omega) x
                        rw [putAt_swap HY.out] at hWt
                        have HWT := hidden hWt
                        have HHI : Hid (∀ z ∈ O.drop j', ltN x z) := fun z hz => by
                          obtain ⟨hy1, hy2⟩ := List.getElem?_eq_some_iff.1 HY.out
                          rw [List.drop_eq_getElem_cons hy1, hy2] at hz
                          rcases List.mem_cons.1 hz with rfl | hz
                          · exact HLT.out
                          · exact hhi.out z hz
                        have HGT := hidden (gb_trans (gb_trans (gb_alloc HGq.out (.cells #[.string x.name, .string x.value] 167)) (puts_gb (g := g9) y.cells ((j' + 1) * 2) _)) (puts_gb (g := g9) x.cells (j' * 2) _))
                        clear hWa hWs hWt
                        go_wp2_with fail
                        go_roundw
                        case rel => exact ⟨j', by go_num, by omega, HWT, HHI, HGT.out⟩
                        case measure => simp [intOf]
                      · exact absurd heq.symm (HNM.out y (List.mem_of_getElem? HY.out))
                      · have HUP : Hid (upN (putAt O (j' + 1) x)) := putAt_up hO.out (fun z _ hz => by
                          have := hz.symm.trans HY.out; cases this
                          have h3 := tri_B.turn x.name y.name
                          rw [hcm] at h3
                          unfold ltN; omega) hhi.out (by have := hOl.out; omega)
                        go_wp2_with fail
                        go_quiet (fail)
                        rename_i nq
                        have HWq := hWj.out.drewN nq
                        have HGq := gb_drewN HGJ.out nq
                        clear a0 a1 c0 c1' hlt2 hge2 hcm
                        generalize wr.drewN nq = wq at HWq HGq ⊢
                        have HOX := own_of_whole_g (n := N) hkl HM9.out.1 HWq (by rw [← HN1.out]; exact HM9.out.2.1) HM9.out.2.2.1 (by rw [putAt_len, hOl.out]; exact HN1.out) (by have := HM9.out.2.2.2; rw [List.length_append, fm_len hkl, putAt_len] at this ⊢; exact this)
                        have HBX := below_gb HB4.out HGq HB4.out.size HM9.out.1
                        have HPE : Hid ((putAt O (j' + 1) x).Perm (l.take (k + 1))) := (putAt_perm O (j' + 1) x).trans HPP.out
                        clear HWq HGq
                        go_wp2_with fail
                        go_roundw
                        case rel => exact ⟨k + 1, putAt O (j' + 1) x, _, rfl, by omega, by go_num, HN, HUP, HPE, (by rw [HN1.out]; exact HOX), HBX⟩
                        case measure => simp [intOf]; omega
                    · obtain rfl : j = 0 := by omega
                      have HUP : Hid (upN (putAt O 0 x)) := putAt_up hO.out (fun z h0 _ => absurd h0 (by decide)) hhi.out (Nat.zero_le _)
                      go_wp2_with fail
                      go_quiet (fail)
                      rename_i nq
                      have HWq := hWj.out.drewN nq
                      have HGq := gb_drewN HGJ.out nq
                      generalize wr.drewN nq = wq at HWq HGq ⊢
                      have HOX := own_of_whole_g (n := N) hkl HM9.out.1 HWq (by rw [← HN1.out]; exact HM9.out.2.1) HM9.out.2.2.1 (by rw [putAt_len, hOl.out]; exact HN1.out) (by have := HM9.out.2.2.2; rw [List.length_append, fm_len hkl, putAt_len] at this ⊢; exact this)
                      have HBX := below_gb HB4.out HGq HB4.out.size HM9.out.1
                      have HPE : Hid ((putAt O 0 x).Perm (l.take (k + 1))) := (putAt_perm O 0 x).trans HPP.out
                      clear HWq HGq
                      go_wp2_with fail
                      go_roundw
                      case rel => exact ⟨k + 1, putAt O 0 x, _, rfl, by omega, by go_num, HN, HUP, HPE, (by rw [HN1.out]; exact HOX), HBX⟩
                      case measure => simp [intOf]; omega
        · obtain rfl : n = k := by omega
          have k1 : ¬ (n : Int) < (n : Int) := by omega
          have HE : Hid (makeErr l = 0) := by rw [Hid, HM.out, he.out]
          have HL : Hid (makeL l = O) := by
            rw [Hid, makeL, if_pos HE.out]
            have hP' := hP.out
            rw [List.take_of_length_le (by rw [H.out.len]; exact Nat.le_refl _)] at hP'
            exact (sortN_uniq (make_apart (by rw [H.out.len]; exact he.out)) hO.out hP').symm
          have hOl : O.length = n := by
            have := hP.out.length_eq
            rw [List.length_take, H.out.len] at this; omega
          go_wp2_with fail
          go_ret2
          rw [HE.out, HL.out, hOl]
          exact ⟨_, rfl, hown, hb⟩
end Go.Proofs.YthncochjhbmceaaGreat
