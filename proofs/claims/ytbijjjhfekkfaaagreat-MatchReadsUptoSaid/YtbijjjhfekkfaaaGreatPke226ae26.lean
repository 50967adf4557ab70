/- append onto a slice that has no room: new memory. Condition: the row is within the reach. labels.Show and the reference's: a set as a text. Condition: the row is within the reach. almanaclaw04.wakes: it holds. No condition. What the laws of labels take in, opened. No condition. -/
import Derived.Test.YtbijjjhfekkfaaaGreatPkeab15ca0
import Derived.Test.YtbijjjhfekkfaaaGreatPk0a83deda
import Derived.Test.YtbijjjhfekkfaaaGreatPk8339b52f
import Derived.Test.YtbijjjhfekkfaaaGreatPk9c512980
import Derived.Test.YtbijjjhfekkfaaaGreatPk3f9e0b30
import Derived.Test.YtbijjjhfekkfaaaGreatPkd7730c96
import Derived.Test.YtbijjjhfekkfaaaGreatPkc2774c96
namespace Go.Proofs.YtbijjjhfekkfaaaGreat
set_option maxRecDepth 100000
open Go.RowKit

section
variable {P : Program} (w : World)
theorem run_full (t ty e : TypeId) (i : TypeInfo) (z : Value) (size bytes : Nat) (ht : P.underlying t = some (.slice e)) (hi : P.info? e = some i) (hz : i.zero = some z)
    (hsize : i.size = size) (hby : i.bytes = bytes) (hzs : z.cells.size = size) (hsz : 0 < size) (B0 : Nat) (D : Option Addr) (n : Nat) (xs : List Value) (hr0 : Row w B0 size D n xs)
    (B : Nat) (A : Option Addr) (m c : Nat) (news : List Value) (hr : Row w B size A m news) (h1 : ∀ u ∈ news, u.oneCell' = true) (hm : 0 < m)
    (h63 : n + m ≤ maxLen) (hbytes : (n + m) * bytes ≤ 140737488355328) :
    ∃ v' w', (Builtin.append_ #[t, t] ty #[.slice D n n, .slice A m c]).run P w = .ok v' w' ∧ w.grownBy w' none ∧ w'.ownsRow w.heap.size e size v' (n + m) (xs ++ news) := by
  obtain ⟨g, o, rfl, _, hc⟩ := hr.at_ hm
  have hcells : ∀ j u, news[j]? = some u → w.cell? ((⟨g, o, none⟩ : Addr).add j) = some u := fun j u hu => by
    have hj : j < news.length := by
      rcases Nat.lt_or_ge j news.length with h | h
      · exact h
      · rw [List.getElem?_eq_none h] at hu; cases hu
    rw [Addr.add_lit, hc j (by rw [← hr.len]; exact hj)]; exact hu
  cases D with
  | none =>
    have hn : n = 0 := by
      rcases Nat.eq_zero_or_pos n with h0 | h0
      · exact h0
      · obtain ⟨_, _, h, _⟩ := hr0.at_ h0
        cases h
    subst hn
    have hx : xs = [] := List.eq_nil_of_length_eq_zero (by rw [hr0.len, Nat.zero_mul])
    subst hx
    obtain ⟨v', w', hrun, h2, h3, _⟩ := run_app (P := P) w w.heap.size t ty e i z size bytes ht hi hz hsize hby hzs hsz (.slice none 0 0) 0 [] (World.ownsRow_nil _ _ _ _) B _ m c news hr h1 h63 hbytes (Nat.le_refl _)
    exact ⟨v', w', hrun, h3, h2⟩
  | some b =>
    obtain ⟨v', w', hrun, h2, h3⟩ := run_append_arg_grows (P := P) w t ty e i z size bytes ht hi hz hsize hby hzs hsz b n n xs hr0.len
      (fun j u hu => by
        have hj : j < xs.length := by
          rcases Nat.lt_or_ge j xs.length with h | h
          · exact h
          · rw [List.getElem?_eq_none h] at hu; cases hu
        rw [hr0.len] at hj
        have hn : 0 < n := by
          rcases Nat.eq_zero_or_pos n with h0 | h0
          · rw [h0, Nat.zero_mul] at hj; omega
          · exact h0
        obtain ⟨g0, o0, hb, _, hc0⟩ := hr0.at_ hn
        injection hb with hb
        subst hb
        rw [Addr.add_lit, hc0 j hj]; exact hu) ⟨g, o, none⟩ m c news hr.len hcells (by omega) h63 hbytes
    exact ⟨v', w', hrun, h3, h2⟩
end

theorem wp_full {P : Program} (w : World) {o : Oper} {a : Act} {K : Act → World → Prop} {Q : Exit → Act → World → Prop} (s x : Operand) (t : TypeId)
    (ho : o.op = .call { callee := .builtin .append, args := #[s, x], argTypes := #[t, t] })
    (e : TypeId) (i : TypeInfo) (z : Value) (size bytes : Nat) (ht : P.underlying t = some (.slice e)) (hi : P.info? e = some i) (hz : i.zero = some z)
    (hsize : i.size = size) (hby : i.bytes = bytes) (hzs : z.cells.size = size) (hsz : 0 < size) (B0 : Nat) (D : Option Addr) (n : Nat) (xs : List Value) (hs : a.eval s = .slice D n n) (hr0 : Row w B0 size D n xs)
    (B : Nat) (A : Option Addr) (m c : Nat) (news : List Value) (hx : a.eval x = .slice A m c) (hr : Row w B size A m news) (h1 : ∀ u ∈ news, u.oneCell' = true) (hm : 0 < m)
    (h63 : n + m ≤ maxLen) (hbytes : (n + m) * bytes ≤ 140737488355328)
    (h : ∀ v' w', w.grownBy w' none → w'.ownsRow w.heap.size e size v' (n + m) (xs ++ news) → K (a.put o.dst v') w') : o.wp P a w K Q := by
  obtain ⟨v', w', hrun, h2, h3⟩ := run_full (P := P) w t o.type e i z size bytes ht hi hz hsize hby hzs hsz B0 D n xs hr0 B A m c news hr h1 hm h63 hbytes
  unfold Oper.wp execOp
  simp only [ho, resolve, invoke, builtin, Sem.run_bind, Sem.run_pure, Result.andThen_ok, List.map_toArray, List.map_cons, List.map_nil, hs, hx, hrun]
  exact h v' w' h2 h3
theorem wpList_full {P : Program} (w : World) {ops : Array Oper} {rest : List Oper} {o : Oper} {a : Act} {Q : Exit → Act → World → Prop} (hgd : o.guard = none) (s x : Operand) (t : TypeId)
    (ho : o.op = .call { callee := .builtin .append, args := #[s, x], argTypes := #[t, t] })
    (e : TypeId) (i : TypeInfo) (z : Value) (size bytes : Nat) (ht : P.underlying t = some (.slice e)) (hi : P.info? e = some i) (hz : i.zero = some z)
    (hsize : i.size = size) (hby : i.bytes = bytes) (hzs : z.cells.size = size) (hsz : 0 < size) (B0 : Nat) (D : Option Addr) (n : Nat) (xs : List Value) (hs : a.eval s = .slice D n n) (hr0 : Row w B0 size D n xs)
    (B : Nat) (A : Option Addr) (m c : Nat) (news : List Value) (hx : a.eval x = .slice A m c) (hr : Row w B size A m news) (h1 : ∀ u ∈ news, u.oneCell' = true) (hm : 0 < m)
    (h63 : n + m ≤ maxLen) (hbytes : (n + m) * bytes ≤ 140737488355328)
    (h : ∀ v' w', w.grownBy w' none → w'.ownsRow w.heap.size e size v' (n + m) (xs ++ news) → wpList P ops Q rest (a.put o.dst v') w') : wpList P ops Q (o :: rest) a w :=
  wpList_plain hgd fun _ hK => wp_full w s x t ho e i z size bytes ht hi hz hsize hby hzs hsz B0 D n xs hs hr0 B A m c news hx hr h1 hm h63 hbytes fun v' w' h2 h3 => hK _ _ (h v' w' h2 h3)
theorem step_full {P : Program} {w : World} {ops : Array Oper} {o : Oper} {a : Act} {K : Act → World → Prop} {Q : Exit → Act → World → Prop} {E : Prop} (hgd : o.guard = none) (s x : Operand) (t : TypeId)
    (ho : o.op = .call { callee := .builtin .append, args := #[s, x], argTypes := #[t, t] })
    (e : TypeId) (i : TypeInfo) (z : Value) (size bytes : Nat) (ht : P.underlying t = some (.slice e)) (hi : P.info? e = some i) (hz : i.zero = some z)
    (hsize : i.size = size) (hby : i.bytes = bytes) (hzs : z.cells.size = size) (hsz : 0 < size) (B0 : Nat) (D : Option Addr) (n : Nat) (xs : List Value) (hs : a.eval s = .slice D n n) (hr0 : Row w B0 size D n xs)
    (B : Nat) (A : Option Addr) (m c : Nat) (news : List Value) (hx : a.eval x = .slice A m c) (hr : Row w B size A m news) (h1 : ∀ u ∈ news, u.oneCell' = true) (hm : 0 < m)
    (h63 : n + m ≤ maxLen) (hbytes : (n + m) * bytes ≤ 140737488355328)
    (h : ∀ v' w', w.grownBy w' none → w'.ownsRow w.heap.size e size v' (n + m) (xs ++ news) → K (a.put o.dst v') w') :
    if Region.wanted o (yielded ops a.tmps) = true then Oper.wp P o a w K Q else E := by
  have hw : Region.wanted o (yielded ops a.tmps) = true := by simp [Region.wanted, hgd]
  rw [if_pos hw]
  exact wp_full w s x t ho e i z size bytes ht hi hz hsize hby hzs hsz B0 D n xs hs hr0 B A m c news hx hr h1 hm h63 hbytes h
theorem step_appW {P : Program} {w : World} {ops : Array Oper} {o : Oper} {a : Act} {K : Act → World → Prop} {Q : Exit → Act → World → Prop} {E : Prop} (hgd : o.guard = none) (s x : Operand) (t : TypeId)
    (ho : o.op = .call { callee := .builtin .append, args := #[s, x], argTypes := #[t, t] })
    (base : Nat) (e : TypeId) (i : TypeInfo) (z : Value) (size bytes : Nat) (ht : P.underlying t = some (.slice e)) (hi : P.info? e = some i) (hz : i.zero = some z)
    (hsize : i.size = size) (hby : i.bytes = bytes) (hzs : z.cells.size = size) (hsz : 0 < size)
    (v : Value) (n : Nat) (xs : List Value) (hs : a.eval s = v) (hown : w.ownsRow base e size v n xs)
    (B : Nat) (A : Option Addr) (m c : Nat) (news : List Value) (hx : a.eval x = .slice A m c) (hr : Row w B size A m news) (h1 : ∀ u ∈ news, u.oneCell' = true)
    (h63 : n + m ≤ maxLen) (hbytes : (n + m) * bytes ≤ 140737488355328) (hbase : base ≤ w.heap.size)
    (h : ∀ v' w', w'.ownsRow base e size v' (n + m) (xs ++ news) → w.grownBy w' v.ownBlock → (v'.ownBlock = v.ownBlock ∨ v'.ownBlock = some w.heap.size) → K (a.put o.dst v') w') :
    if Region.wanted o (yielded ops a.tmps) = true then Oper.wp P o a w K Q else E := by
  have hw : Region.wanted o (yielded ops a.tmps) = true := by simp [Region.wanted, hgd]
  rw [if_pos hw]
  exact wp_app w s x t ho base e i z size bytes ht hi hz hsize hby hzs hsz v n xs hs hown B A m c news hx hr h1 h63 hbytes hbase h
theorem fresh_now (w : World) (t : TypeId) (v : Value) : Row (w.alloc (.cells #[v] t)) (w.alloc (.cells #[v] t)).heap.size 1 (some ⟨w.heap.size, 0, none⟩) 1 [v] := (Row.fresh w t 1 1 [v] rfl).more (by simp)
theorem fresh_at (w : World) (t : TypeId) (v : Value) (b : Nat) (hb : b = w.heap.size) : Row (w.alloc (.cells #[v] t)) (w.alloc (.cells #[v] t)).heap.size 1 (some ⟨b, 0, none⟩) 1 [v] := by subst hb; exact fresh_now w t v
theorem Row.allocd {w : World} {size n : Nat} {A : Option Addr} {xs : List Value} (h : Row w w.heap.size size A n xs) (o : Obj) : Row (w.alloc o) (w.alloc o).heap.size size A n xs := (h.alloc (Nat.le_refl _) o).more (by simp)
theorem Row.grew {w w' : World} {size n : Nat} {A : Option Addr} {xs : List Value} (h : Row w w.heap.size size A n xs) (g : w.grownBy w' none) : Row w' w'.heap.size size A n xs :=
  (h.keep fun k hk => g.block k hk (by simp)).more g.size
theorem Row.drewd {w : World} {size n : Nat} {A : Option Addr} {xs : List Value} (h : Row w w.heap.size size A n xs) : Row w.drew w.drew.heap.size size A n xs := h.drew
theorem below_allocd {a w : World} (h : Below a.heap.size a w) (o : Obj) : Below a.heap.size a (w.alloc o) := h.alloc h.size o
theorem below_grew {a w w' : World} (h : Below a.heap.size a w) (g : w.grownBy w' none) : Below a.heap.size a w' := h.grown g h.size (by simp)
end Go.Proofs.YtbijjjhfekkfaaaGreat

namespace Go.Proofs.YtbijjjhfekkfaaaGreat
set_option maxRecDepth 100000
open Go.RowKit

/-- one label as a text -/
def partL (x : Lbl) : List UInt8 := x.name.data.toList ++ 61 :: quoteL x.value.data.toList
def partB (x : Lbl) : ByteArray := ⟨(partL x).toArray⟩
/-- a list as a text -/
def showP (l : List Lbl) : List UInt8 := joinL (l.map partB)
def showL (l : List Lbl) : List UInt8 := if validP l then showP l else []
theorem valid_small {l : List Lbl} (h : validP l) : l.length ≤ 8 ∧ ∀ x ∈ l, x.name.size ≤ 32 ∧ x.value.size ≤ 64 := by
  obtain ⟨h1, h2, h3⟩ := makeErr_ok h.1
  refine ⟨h2, fun x hx => ?_⟩
  obtain ⟨a, b⟩ := make_fits h3 x hx
  unfold fitN at a
  unfold fitV at b
  simp only [Bool.and_eq_true, decide_eq_true_eq] at a b
  exact ⟨a.2.2, b.2⟩
theorem partB_size {x : Lbl} (h1 : x.name.size ≤ 32) (h2 : x.value.size ≤ 64) : (partB x).size ≤ 1000 := by
  have e : (partB x).size = (partL x).length := rfl
  have h3 := quoL_len x.value.data.toList
  have e1 : x.name.data.toList.length = x.name.size := rfl
  have e2 : x.value.data.toList.length = x.value.size := rfl
  rw [e]
  simp only [partL, quoteL, List.length_append, List.length_cons, List.length_nil]
  omega
theorem infoStr : (Tryz.prog.info? 9).map (fun i => (i.zero, i.size, i.bytes)) = some (some (.string ⟨#[]⟩), 1, 16) := by kernel_rfl

end Go.Proofs.YtbijjjhfekkfaaaGreat

namespace Go.Proofs.YtbijjjhfekkfaaaGreat
set_option maxRecDepth 100000
open Go.RowKit

def wkL : List Lbl := [⟨⟨#[98]⟩, ⟨#[49]⟩⟩, ⟨⟨#[97]⟩, ⟨#[120]⟩⟩]
def wkS : List Lbl := [⟨⟨#[97]⟩, ⟨#[120]⟩⟩, ⟨⟨#[98]⟩, ⟨#[49]⟩⟩]
theorem wk_err : makeErr wkL = 0 := by decide +kernel
theorem wk_up : upN wkS := by unfold upN ltN wkS; decide +kernel
theorem wk_apart : wkL.Pairwise fun x y => x.name ≠ y.name := by unfold wkL; decide +kernel
theorem wk_make : makeL wkL = wkS := by
  rw [makeL, if_pos wk_err]
  exact (sortN_uniq wk_apart wk_up (List.Perm.swap _ _ _)).symm
theorem wk_show : (⟨(showL wkS).toArray⟩ : ByteArray) = ⟨#[97, 61, 34, 120, 34, 44, 98, 61, 34, 49, 34]⟩ := by
  have : showL wkS = showP wkS := if_pos (by
    have := sortN_valid wk_err
    rwa [sortN_uniq wk_apart wk_up (List.Perm.swap _ _ _)])
  rw [this]
  decide +kernel
theorem wk_get : getL wkS ⟨#[98]⟩ = ⟨#[49]⟩ := by decide +kernel

theorem wkL_sz : ∀ x ∈ wkL, x.name.size ≤ 140737488355328 ∧ x.value.size ≤ 140737488355328 := by decide +kernel
theorem wkS_sz : ∀ x ∈ wkS, x.name.size ≤ 140737488355328 ∧ x.value.size ≤ 140737488355328 := by decide +kernel
end Go.Proofs.YtbijjjhfekkfaaaGreat

namespace Go.Proofs.YtbijjjhfekkfaaaGreat
set_option maxRecDepth 100000
open Go.RowKit Go.WideShapes Go.ChangeShapes

section
variable {H : Type} {enc : TypeId × Value → H} {W : World} {b : Nat}
theorem opens_lblS : Opens enc Tryz.prog W b 114 Lbl.cells (fun x => x.name.size ≤ 140737488355328 ∧ x.value.size ≤ 140737488355328) := by
  intro fuel cs x h hf
  obtain ⟨n, hl, hp⟩ := open_ones Tryz.underlying114 (by kernel_rfl) (by kernel_rfl) h hf
  obtain ⟨u0, y0, c0, t0, f0⟩ := hp 0 _ rfl
  obtain ⟨u1, y1, c1, t1, f1⟩ := hp 1 _ rfl
  obtain ⟨s0, e0, g0, _⟩ := opens_string Tryz.underlying9 _ _ _ t0 f0
  obtain ⟨s1, e1, g1, _⟩ := opens_string Tryz.underlying9 _ _ _ t1 f1
  simp only [List.cons.injEq, and_true] at e0 e1
  subst e0 e1
  match cs, hl with
  | [a, c], _ =>
    simp only [List.getElem?_cons_zero, List.getElem?_cons_succ, Option.some.injEq] at c0 c1
    unfold reachBytes at g0 g1
    exact ⟨⟨s0, s1⟩, by rw [c0, c1]; rfl, by show s0.size ≤ _; omega, by show s1.size ≤ _; omega⟩
theorem open_labels {base : Nat} {v : Value} {d : DataW H} {ps : List MemPlace} (hv : Value.okWide Tryz.prog W .any base 53 v) (h : DataW.Trod enc Tryz.prog W 0 (fun _ => true) true 53 v d ps) (hF : Fits Tryz.prog W b 53 (d, ps)) :
    ∃ (A : Option Addr) (n c : Nat) (l : List Lbl), v = .slice A n c ∧ LbF W A n l ∧ n ≤ c := by
  obtain ⟨s, rfl, ⟨h1, h2, h3⟩, h4, h5, _⟩ := open_arg_slice (k := 2) (f := Lbl.cells) Tryz.underlying53 (by kernel_rfl) (by decide) (fun _ => rfl) opens_lblS hv h hF
  rw [show Tryz.prog.bytesOf 114 = 32 from by kernel_rfl] at h5
  unfold reachBytes at h5
  exact ⟨s.A, s.n, s.c, s.l, rfl, ⟨h3, h2, by omega, h4⟩, h1⟩
end

theorem make_sz {l : List Lbl} (h : ∀ x ∈ l, x.name.size ≤ 140737488355328 ∧ x.value.size ≤ 140737488355328) : ∀ x ∈ makeL l, x.name.size ≤ 140737488355328 ∧ x.value.size ≤ 140737488355328 := fun x hx => by
  unfold makeL at hx
  split at hx
  · exact h x ((sortN_perm l).mem_iff.1 hx)
  · cases hx
theorem makeLaw (A : Option Addr) (n c : Nat) (l : List Lbl) (w : World) (h : LbF w A n l) (hnc : n ≤ c) :
    Calls Tryz.prog 118 #[.slice A n c] w fun e w' => ∃ B c', e = .returned (.tuple #[.slice B (makeL l).length c', .int .i64 (makeErr l)]) ∧ LbF w' B (makeL l).length (makeL l) ∧ (makeL l).length ≤ c' ∧ Below w.heap.size w w' := by
  refine (lmake_any A n c l w h hnc).mono ?_
  rintro e w' ⟨v, rfl, hown, hb⟩
  obtain ⟨B, c', rfl, hc, hr⟩ := own_shape hown
  exact ⟨B, c', rfl, ⟨hr, rfl, by have := makeL_len (l := l); omega, make_sz h.sz⟩, hc, hb⟩
theorem makeRef (A : Option Addr) (n c : Nat) (l : List Lbl) (w : World) (h : LbF w A n l) :
    Calls Tryz.prog 214 #[.slice A n c] w fun e w' => ∃ B c', e = .returned (.tuple #[.slice B (makeL l).length c', .int .i64 (makeErr l)]) ∧ LbF w' B (makeL l).length (makeL l) ∧ Below w.heap.size w w' := by
  refine (rmake_any A n c l w h).mono ?_
  rintro e w' ⟨v, rfl, hown, hb⟩
  obtain ⟨B, c', rfl, hc, hr⟩ := own_shape hown
  exact ⟨B, c', rfl, ⟨hr, rfl, by have := makeL_len (l := l); omega, make_sz h.sz⟩, hb⟩
end Go.Proofs.YtbijjjhfekkfaaaGreat
