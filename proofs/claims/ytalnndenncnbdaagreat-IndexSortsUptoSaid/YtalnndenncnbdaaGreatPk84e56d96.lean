/- append onto a slice that has no room: new memory. Condition: the row is within the reach. labels.Show and the reference's: a set as a text. Condition: the row is within the reach. labels.Get and the reference's: the value of a name. Condition: the row is within the reach. -/
import Derived.Test.YtalnndenncnbdaaGreatPkd4a53134
import Derived.Test.YtalnndenncnbdaaGreatPkf0413837
import Derived.Test.YtalnndenncnbdaaGreatPkefc65016
import Derived.Test.YtalnndenncnbdaaGreatPk6aa95f8a
namespace Go.Proofs.YtalnndenncnbdaaGreat
set_option maxRecDepth 100000
open Go.RowKit

section
variable {P : Program} (w : World)
theorem run_full (t ty e : TypeId) (i : TypeInfo) (z : Value) (size bytes : Nat) (ht : P.underlying t = some (.slice e)) (hi : P.info? e = some i) (hz : i.zero = some z)
    (hsize : i.size = size) (hby : i.bytes = bytes) (hzs : z.cells.size = size) (hsz : 0 < size) (B0 : Nat) (D : Option Addr) (n : Nat) (xs : List Value) (hr0 : Row w B0 size D n xs)
    (B : Nat) (A : Option Addr) (m c : Nat) (news : List Value) (hr : Row w B size A m news) (h1 : ∀ u ∈ news, u.oneCell' = true) (hm : 0 < m)
    (h63 : n + m ≤ maxLen) (hbytes : (n + m) * bytes ≤ 140737488355328) :
    ∃ v' w', (Builtin.append_ #[t, t] ty #[.slice D n n, .slice A m c]).run P w = .ok v' w' ∧ w.grownBy w' none ∧ w'.ownsRow w.heap.size e size v' (n + m) (xs ++ news) := by
  obtain ⟨g, o, rfl, _, hc⟩ := hr.at_ hm
  have hcells : ∀ j u, news[j]? = some u → w.cell? ((⟨g, o, none⟩ : Addr).add j) = some u := fun j u hu => by
    have hj : j < news.length := by
      rcases Nat.lt_or_ge j news.length with h | h
      · exact h
      · rw [List.getElem?_eq_none h] at hu; cases hu
    rw [Addr.add_lit, hc j (by rw [← hr.len]; exact hj)]; exact hu
  cases D with
  | none =>
    have hn : n = 0 := by
      rcases Nat.eq_zero_or_pos n with h0 | h0
      · exact h0
      · obtain ⟨_, _, h, _⟩ := hr0.at_ h0
        cases h
    subst hn
    have hx : xs = [] := List.eq_nil_of_length_eq_zero (by rw [hr0.len, Nat.zero_mul])
    subst hx
    obtain ⟨v', w', hrun, h2, h3, _⟩ := run_app (P := P) w w.heap.size t ty e i z size bytes ht hi hz hsize hby hzs hsz (.slice none 0 0) 0 [] (World.ownsRow_nil _ _ _ _) B _ m c news hr h1 h63 hbytes (Nat.le_refl _)
    exact ⟨v', w', hrun, h3, h2⟩
  | some b =>
    obtain ⟨v', w', hrun, h2, h3⟩ := run_append_arg_grows (P := P) w t ty e i z size bytes ht hi hz hsize hby hzs hsz b n n xs hr0.len
      (fun j u hu => by
        have hj : j < xs.length := by
          rcases Nat.lt_or_ge j xs.length with h | h
          · exact h
          · rw [List.getElem?_eq_none h] at hu; cases hu
        rw [hr0.len] at hj
        have hn : 0 < n := by
          rcases Nat.eq_zero_or_pos n with h0 | h0
          · rw [h0, Nat.zero_mul] at hj; omega
          · exact h0
        obtain ⟨g0, o0, hb, _, hc0⟩ := hr0.at_ hn
        injection hb with hb
        subst hb
        rw [Addr.add_lit, hc0 j hj]; exact hu) ⟨g, o, none⟩ m c news hr.len hcells (by omega) h63 hbytes
    exact ⟨v', w', hrun, h3, h2⟩
end

theorem wp_full {P : Program} (w : World) {o : Oper} {a : Act} {K : Act → World → Prop} {Q : Exit → Act → World → Prop} (s x : Operand) (t : TypeId)
    (ho : o.op = .call { callee := .builtin .append, args := #[s, x], argTypes := #[t, t] })
    (e : TypeId) (i : TypeInfo) (z : Value) (size bytes : Nat) (ht : P.underlying t = some (.slice e)) (hi : P.info? e = some i) (hz : i.zero = some z)
    (hsize : i.size = size) (hby : i.bytes = bytes) (hzs : z.cells.size = size) (hsz : 0 < size) (B0 : Nat) (D : Option Addr) (n : Nat) (xs : List Value) (hs : a.eval s = .slice D n n) (hr0 : Row w B0 size D n xs)
    (B : Nat) (A : Option Addr) (m c : Nat) (news : List Value) (hx : a.eval x = .slice A m c) (hr : Row w B size A m news) (h1 : ∀ u ∈ news, u.oneCell' = true) (hm : 0 < m)
    (h63 : n + m ≤ maxLen) (hbytes : (n + m) * bytes ≤ 140737488355328)
    (h : ∀ v' w', w.grownBy w' none → w'.ownsRow w.heap.size e size v' (n + m) (xs ++ news) → K (a.put o.dst v') w') : o.wp P a w K Q := by
  obtain ⟨v', w', hrun, h2, h3⟩ := run_full (P := P) w t o.type e i z size bytes ht hi hz hsize hby hzs hsz B0 D n xs hr0 B A m c news hr h1 hm h63 hbytes
  unfold Oper.wp execOp
  simp only [ho, resolve, invoke, builtin, Sem.run_bind, Sem.run_pure, Result.andThen_ok, List.map_toArray, List.map_cons, List.map_nil, hs, hx, hrun]
  exact h v' w' h2 h3
theorem wpList_full {P : Program} (w : World) {ops : Array Oper} {rest : List Oper} {o : Oper} {a : Act} {Q : Exit → Act → World → Prop} (hgd : o.guard = none) (s x : Operand) (t : TypeId)
    (ho : o.op = .call { callee := .builtin .append, args := #[s, x], argTypes := #[t, t] })
    (e : TypeId) (i : TypeInfo) (z : Value) (size bytes : Nat) (ht : P.underlying t = some (.slice e)) (hi : P.info? e = some i) (hz : i.zero = some z)
    (hsize : i.size = size) (hby : i.bytes = bytes) (hzs : z.cells.size = size) (hsz : 0 < size) (B0 : Nat) (D : Option Addr) (n : Nat) (xs : List Value) (hs : a.eval s = .slice D n n) (hr0 : Row w B0 size D n xs)
    (B : Nat) (A : Option Addr) (m c : Nat) (news : List Value) (hx : a.eval x = .slice A m c) (hr : Row w B size A m news) (h1 : ∀ u ∈ news, u.oneCell' = true) (hm : 0 < m)
    (h63 : n + m ≤ maxLen) (hbytes : (n + m) * bytes ≤ 140737488355328)
    (h : ∀ v' w', w.grownBy w' none → w'.ownsRow w.heap.size e size v' (n + m) (xs ++ news) → wpList P ops Q rest (a.put o.dst v') w') : wpList P ops Q (o :: rest) a w :=
  wpList_plain hgd fun _ hK => wp_full w s x t ho e i z size bytes ht hi hz hsize hby hzs hsz B0 D n xs hs hr0 B A m c news hx hr h1 hm h63 hbytes fun v' w' h2 h3 => hK _ _ (h v' w' h2 h3)
theorem step_full {P : Program} {w : World} {ops : Array Oper} {o : Oper} {a : Act} {K : Act → World → Prop} {Q : Exit → Act → World → Prop} {E : Prop} (hgd : o.guard = none) (s x : Operand) (t : TypeId)
    (ho : o.op = .call { callee := .builtin .append, args := #[s, x], argTypes := #[t, t] })
    (e : TypeId) (i : TypeInfo) (z : Value) (size bytes : Nat) (ht : P.underlying t = some (.slice e)) (hi : P.info? e = some i) (hz : i.zero = some z)
    (hsize : i.size = size) (hby : i.bytes = bytes) (hzs : z.cells.size = size) (hsz : 0 < size) (B0 : Nat) (D : Option Addr) (n : Nat) (xs : List Value) (hs : a.eval s = .slice D n n) (hr0 : Row w B0 size D n xs)
    (B : Nat) (A : Option Addr) (m c : Nat) (news : List Value) (hx : a.eval x = .slice A m c) (hr : Row w B size A m news) (h1 : ∀ u ∈ news, u.oneCell' = true) (hm : 0 < m)
    (h63 : n + m ≤ maxLen) (hbytes : (n + m) * bytes ≤ 140737488355328)
    (h : ∀ v' w', w.grownBy w' none → w'.ownsRow w.heap.size e size v' (n + m) (xs ++ news) → K (a.put o.dst v') w') :
    if Region.wanted o (yielded ops a.tmps) = true then Oper.wp P o a w K Q else E := by
  have hw : Region.wanted o (yielded ops a.tmps) = true := by simp [Region.wanted, hgd]
  rw [if_pos hw]
  exact wp_full w s x t ho e i z size bytes ht hi hz hsize hby hzs hsz B0 D n xs hs hr0 B A m c news hx hr h1 hm h63 hbytes h
theorem step_appW {P : Program} {w : World} {ops : Array Oper} {o : Oper} {a : Act} {K : Act → World → Prop} {Q : Exit → Act → World → Prop} {E : Prop} (hgd : o.guard = none) (s x : Operand) (t : TypeId)
    (ho : o.op = .call { callee := .builtin .append, args := #[s, x], argTypes := #[t, t] })
    (base : Nat) (e : TypeId) (i : TypeInfo) (z : Value) (size bytes : Nat) (ht : P.underlying t = some (.slice e)) (hi : P.info? e = some i) (hz : i.zero = some z)
    (hsize : i.size = size) (hby : i.bytes = bytes) (hzs : z.cells.size = size) (hsz : 0 < size)
    (v : Value) (n : Nat) (xs : List Value) (hs : a.eval s = v) (hown : w.ownsRow base e size v n xs)
    (B : Nat) (A : Option Addr) (m c : Nat) (news : List Value) (hx : a.eval x = .slice A m c) (hr : Row w B size A m news) (h1 : ∀ u ∈ news, u.oneCell' = true)
    (h63 : n + m ≤ maxLen) (hbytes : (n + m) * bytes ≤ 140737488355328) (hbase : base ≤ w.heap.size)
    (h : ∀ v' w', w'.ownsRow base e size v' (n + m) (xs ++ news) → w.grownBy w' v.ownBlock → (v'.ownBlock = v.ownBlock ∨ v'.ownBlock = some w.heap.size) → K (a.put o.dst v') w') :
    if Region.wanted o (yielded ops a.tmps) = true then Oper.wp P o a w K Q else E := by
  have hw : Region.wanted o (yielded ops a.tmps) = true := by simp [Region.wanted, hgd]
  rw [if_pos hw]
  exact wp_app w s x t ho base e i z size bytes ht hi hz hsize hby hzs hsz v n xs hs hown B A m c news hx hr h1 h63 hbytes hbase h
theorem fresh_now (w : World) (t : TypeId) (v : Value) : Row (w.alloc (.cells #[v] t)) (w.alloc (.cells #[v] t)).heap.size 1 (some ⟨w.heap.size, 0, none⟩) 1 [v] := (Row.fresh w t 1 1 [v] rfl).more (by simp)
theorem fresh_at (w : World) (t : TypeId) (v : Value) (b : Nat) (hb : b = w.heap.size) : Row (w.alloc (.cells #[v] t)) (w.alloc (.cells #[v] t)).heap.size 1 (some ⟨b, 0, none⟩) 1 [v] := by subst hb; exact fresh_now w t v
theorem Row.allocd {w : World} {size n : Nat} {A : Option Addr} {xs : List Value} (h : Row w w.heap.size size A n xs) (o : Obj) : Row (w.alloc o) (w.alloc o).heap.size size A n xs := (h.alloc (Nat.le_refl _) o).more (by simp)
theorem Row.grew {w w' : World} {size n : Nat} {A : Option Addr} {xs : List Value} (h : Row w w.heap.size size A n xs) (g : w.grownBy w' none) : Row w' w'.heap.size size A n xs :=
  (h.keep fun k hk => g.block k hk (by simp)).more g.size
theorem Row.drewd {w : World} {size n : Nat} {A : Option Addr} {xs : List Value} (h : Row w w.heap.size size A n xs) : Row w.drew w.drew.heap.size size A n xs := h.drew
theorem below_allocd {a w : World} (h : Below a.heap.size a w) (o : Obj) : Below a.heap.size a (w.alloc o) := h.alloc h.size o
theorem below_grew {a w w' : World} (h : Below a.heap.size a w) (g : w.grownBy w' none) : Below a.heap.size a w' := h.grown g h.size (by simp)
end Go.Proofs.YtalnndenncnbdaaGreat

namespace Go.Proofs.YtalnndenncnbdaaGreat
set_option maxRecDepth 100000
open Go.RowKit

/-- one label as a text -/
def partL (x : Lbl) : List UInt8 := x.name.data.toList ++ 61 :: quoteL x.value.data.toList
def partB (x : Lbl) : ByteArray := ⟨(partL x).toArray⟩
/-- a list as a text -/
def showP (l : List Lbl) : List UInt8 := joinL (l.map partB)
def showL (l : List Lbl) : List UInt8 := if validP l then showP l else []
theorem valid_small {l : List Lbl} (h : validP l) : l.length ≤ 8 ∧ ∀ x ∈ l, x.name.size ≤ 32 ∧ x.value.size ≤ 64 := by
  obtain ⟨h1, h2, h3⟩ := makeErr_ok h.1
  refine ⟨h2, fun x hx => ?_⟩
  obtain ⟨a, b⟩ := make_fits h3 x hx
  unfold fitN at a
  unfold fitV at b
  simp only [Bool.and_eq_true, decide_eq_true_eq] at a b
  exact ⟨a.2.2, b.2⟩
theorem partB_size {x : Lbl} (h1 : x.name.size ≤ 32) (h2 : x.value.size ≤ 64) : (partB x).size ≤ 1000 := by
  have e : (partB x).size = (partL x).length := rfl
  have h3 := quoL_len x.value.data.toList
  have e1 : x.name.data.toList.length = x.name.size := rfl
  have e2 : x.value.data.toList.length = x.value.size := rfl
  rw [e]
  simp only [partL, quoteL, List.length_append, List.length_cons, List.length_nil]
  omega
theorem infoStr : (Tryz.prog.info? 9).map (fun i => (i.zero, i.size, i.bytes)) = some (some (.string ⟨#[]⟩), 1, 16) := by kernel_rfl

end Go.Proofs.YtalnndenncnbdaaGreat

namespace Go.Proofs.YtalnndenncnbdaaGreat
set_option maxRecDepth 100000
open Go.RowKit

def getL : List Lbl → ByteArray → ByteArray
  | [], _ => ⟨#[]⟩
  | x :: l, nm => if x.name = nm then x.value else getL l nm
theorem getL_none : ∀ {l : List Lbl} {nm : ByteArray}, (∀ x ∈ l, x.name ≠ nm) → getL l nm = ⟨#[]⟩
  | [], _, _ => rfl
  | x :: l, nm, h => by rw [getL, if_neg (h x (by simp)), getL_none fun y hy => h y (by simp [hy])]
theorem getL_here : ∀ {l : List Lbl} {nm : ByteArray} {k : Nat} {x : Lbl}, (∀ y ∈ l.take k, y.name ≠ nm) → l[k]? = some x → x.name = nm → getL l nm = x.value
  | y :: l, nm, 0, x, _, hx, e => by
    simp only [List.getElem?_cons_zero, Option.some.injEq] at hx
    subst hx
    rw [getL, if_pos e]
  | y :: l, nm, k + 1, x, h, hx, e => by
    rw [getL, if_neg (h y (by simp)), getL_here (fun z hz => h z (by rw [List.take_succ_cons]; exact List.mem_cons_of_mem _ hz)) (by simpa using hx) e]

set_option maxHeartbeats 1600000 in
theorem lget_any (A : Option Addr) (n c : Nat) (l : List Lbl) (nm : ByteArray) (w : World) (h : LbF w A n l) :
    Calls Tryz.prog 100 #[.slice A n c, .string nm] w fun e w' => e = .returned (.string (getL l nm)) ∧ Below w.heap.size w w' := by
  have H := hidden h
  have hfit := h.fit
  clear h
  go_enter Tryz.func100, Tryz.ntmps100
  go_wp2_with fail
  go_loopw [9] (fun vi wr => ∃ k : Nat, k ≤ n ∧ vi = .int .i64 k ∧ Hid (∀ y ∈ l.take k, y.name ≠ nm) ∧ Below w.heap.size w wr) (fun vi _ => n - (intOf vi).toNat)
  case atStart => exact ⟨0, Nat.zero_le _, rfl, hidden (by simp), Below.refl _ _⟩
  case round =>
    obtain ⟨k, hk, rfl, hno, hb⟩ := hrel
    have k0 : (0 : Int) ≤ (k : Int) := by omega
    by_cases hlt : k < n
    · have k1 : (k : Int) < (n : Int) := by omega
      obtain ⟨g, o, x, rfl, hg, hx, d0, d1, _⟩ := lb_cells (H.out.on hb) hlt
      have HX := hidden hx
      have HBa := hidden (hb.alloc hb.size (.cells #[.string x.name, .string x.value] 40))
      have hs := str_eq x.name nm
      clear hx hb
      by_cases he : x.name = nm
      · rw [decide_eq_true he] at hs
        have hG := hidden (getL_here hno.out HX.out he)
        clear he
        go_wp2_with fail
        go_ret
        rw [hG.out]
        exact ⟨rfl, HBa.out⟩
      · rw [decide_eq_false he] at hs
        have hno2 : Hid (∀ y ∈ l.take (k + 1), y.name ≠ nm) := fun y hy => by
          rw [take_snoc? HX.out, List.mem_append, List.mem_singleton] at hy
          rcases hy with hy | rfl
          · exact hno.out y hy
          · exact he
        clear he
        go_wp2_with fail
        go_roundw
        case rel => exact ⟨k + 1, by omega, by go_num, hno2, HBa.out⟩
        case measure => simp [intOf]; omega
    · obtain rfl : n = k := by omega
      have k1 : ¬ (n : Int) < (n : Int) := by omega
      have hG := hidden (getL_none (l := l) (nm := nm) (by
        have := hno.out
        rwa [List.take_of_length_le (by rw [H.out.len]; exact Nat.le_refl _)] at this))
      go_wp2_with fail
      go_ret
      rw [hG.out]
      exact ⟨rfl, hb⟩

set_option maxHeartbeats 1600000 in
theorem rget_any (A : Option Addr) (n c : Nat) (l : List Lbl) (nm : ByteArray) (w : World) (h : LbF w A n l) :
    Calls Tryz.prog 48 #[.slice A n c, .string nm] w fun e w' => e = .returned (.string (getL l nm)) ∧ Below w.heap.size w w' := by
  have H := hidden h
  have hfit := h.fit
  clear h
  go_enter Tryz.func48, Tryz.ntmps48
  go_wp2_with fail
  go_loopw [5] (fun vi wr => ∃ k : Nat, k ≤ n ∧ vi = .int .i64 k ∧ Hid (∀ y ∈ l.take k, y.name ≠ nm) ∧ Below w.heap.size w wr) (fun vi _ => n - (intOf vi).toNat)
  case atStart => exact ⟨0, Nat.zero_le _, rfl, hidden (by simp), Below.refl _ _⟩
  case round =>
    obtain ⟨k, hk, rfl, hno, hb⟩ := hrel
    have k0 : (0 : Int) ≤ (k : Int) := by omega
    by_cases hlt : k < n
    · have k1 : (k : Int) < (n : Int) := by omega
      obtain ⟨g, o, x, rfl, hg, hx, d0, d1, _⟩ := lb_cells (H.out.on hb) hlt
      have HX := hidden hx
      have HB := hidden hb
      have hs := str_eq x.name nm
      clear hx hb
      by_cases he : x.name = nm
      · rw [decide_eq_true he] at hs
        have hG := hidden (getL_here hno.out HX.out he)
        clear he
        go_wp2_with fail
        go_ret
        rw [hG.out]
        exact ⟨rfl, HB.out⟩
      · rw [decide_eq_false he] at hs
        have hno2 : Hid (∀ y ∈ l.take (k + 1), y.name ≠ nm) := fun y hy => by
          rw [take_snoc? HX.out, List.mem_append, List.mem_singleton] at hy
          rcases hy with hy | rfl
          · exact hno.out y hy
          · exact he
        clear he
        go_wp2_with fail
        go_roundw
        case rel => exact ⟨k + 1, by omega, by go_num, hno2, HB.out⟩
        case measure => simp [intOf]; omega
    · obtain rfl : n = k := by omega
      have k1 : ¬ (n : Int) < (n : Int) := by omega
      have hG := hidden (getL_none (l := l) (nm := nm) (by
        have := hno.out
        rwa [List.take_of_length_le (by rw [H.out.len]; exact Nat.le_refl _)] at this))
      go_wp2_with fail
      go_ret
      rw [hG.out]
      exact ⟨rfl, hb⟩
end Go.Proofs.YtalnndenncnbdaaGreat
