/- strings.Join at a few short texts, the comma between them. Condition: at most 8 texts of at most 1000 bytes each. append onto a slice that has no room: new memory. Condition: the row is within the reach. -/
import Derived.Test.YtdggnnjjiolldaaGreatPk2b336318
import Derived.Test.YtdggnnjjiolldaaGreatPk16d34f5a
import Derived.Test.YtdggnnjjiolldaaGreatPkd7a12640
namespace Go.Proofs.YtdggnnjjiolldaaGreat
set_option maxRecDepth 100000
open Go.RowKit

/-- texts with commas between them -/
def joinL : List ByteArray → List UInt8
  | [] => []
  | x :: r => x.data.toList ++ r.flatMap fun y => 44 :: y.data.toList
def sizes (xs : List ByteArray) : Nat := (xs.map ByteArray.size).sum
theorem sizes_take {xs : List ByteArray} {k : Nat} {x : ByteArray} (h : xs[k]? = some x) : sizes (xs.take (k + 1)) = sizes (xs.take k) + x.size := by
  rw [take_snoc? h]; simp [sizes]
theorem sizes_le {xs : List ByteArray} (h : ∀ x ∈ xs, x.size ≤ 1000) : sizes xs ≤ 1000 * xs.length := by
  induction xs with
  | nil => simp [sizes]
  | cons x xs ih =>
    have := ih fun y hy => h y (by simp [hy])
    have := h x (by simp)
    simp only [sizes, List.map_cons, List.sum_cons, List.length_cons] at *
    omega

theorem joinL_len : ∀ xs : List ByteArray, (joinL xs).length ≤ sizes xs + xs.length
  | [] => by simp [joinL]
  | x :: r => by
    have h : (r.flatMap fun y => 44 :: y.data.toList).length = sizes r + r.length := by
      induction r with
      | nil => simp [sizes]
      | cons y r ih =>
        have e : y.data.toList.length = y.size := rfl
        simp only [List.flatMap_cons, List.length_append, List.length_cons, ih, sizes, List.map_cons, List.sum_cons, e]
        omega
    have e : x.data.toList.length = x.size := rfl
    simp only [joinL, List.length_append, h, sizes, List.map_cons, List.sum_cons, List.length_cons, e]
    omega
theorem joinL_snoc {xs : List ByteArray} {i : Nat} {y : ByteArray} (h : xs[i + 1]? = some y) : joinL (xs.take (i + 1 + 1)) = joinL (xs.take (i + 1)) ++ 44 :: y.data.toList := by
  rw [take_snoc? h]
  cases xs with
  | nil => simp at h
  | cons x r => simp [joinL]
theorem joinL_ne : ∀ {xs : List ByteArray}, 2 ≤ xs.length → joinL xs ≠ []
  | [], h => absurd h (by simp)
  | [_], h => absurd h (by simp)
  | x :: y :: r, _ => by simp [joinL]
end Go.Proofs.YtdggnnjjiolldaaGreat

namespace Go.Proofs.YtdggnnjjiolldaaGreat
set_option maxRecDepth 100000
open Go.RowKit

section
variable {P : Program} (w : World)
theorem run_full (t ty e : TypeId) (i : TypeInfo) (z : Value) (size bytes : Nat) (ht : P.underlying t = some (.slice e)) (hi : P.info? e = some i) (hz : i.zero = some z)
    (hsize : i.size = size) (hby : i.bytes = bytes) (hzs : z.cells.size = size) (hsz : 0 < size) (B0 : Nat) (D : Option Addr) (n : Nat) (xs : List Value) (hr0 : Row w B0 size D n xs)
    (B : Nat) (A : Option Addr) (m c : Nat) (news : List Value) (hr : Row w B size A m news) (h1 : ∀ u ∈ news, u.oneCell' = true) (hm : 0 < m)
    (h63 : n + m ≤ maxLen) (hbytes : (n + m) * bytes ≤ 140737488355328) :
    ∃ v' w', (Builtin.append_ #[t, t] ty #[.slice D n n, .slice A m c]).run P w = .ok v' w' ∧ w.grownBy w' none ∧ w'.ownsRow w.heap.size e size v' (n + m) (xs ++ news) := by
  obtain ⟨g, o, rfl, _, hc⟩ := hr.at_ hm
  have hcells : ∀ j u, news[j]? = some u → w.cell? ((⟨g, o, none⟩ : Addr).add j) = some u := fun j u hu => by
    have hj : j < news.length := by
      rcases Nat.lt_or_ge j news.length with h | h
      · exact h
      · rw [List.getElem?_eq_none h] at hu; cases hu
    rw [Addr.add_lit, hc j (by rw [← hr.len]; exact hj)]; exact hu
  cases D with
  | none =>
    have hn : n = 0 := by
      rcases Nat.eq_zero_or_pos n with h0 | h0
      · exact h0
      · obtain ⟨_, _, h, _⟩ := hr0.at_ h0
        cases h
    subst hn
    have hx : xs = [] := List.eq_nil_of_length_eq_zero (by rw [hr0.len, Nat.zero_mul])
    subst hx
    obtain ⟨v', w', hrun, h2, h3, _⟩ := run_app (P := P) w w.heap.size t ty e i z size bytes ht hi hz hsize hby hzs hsz (.slice none 0 0) 0 [] (World.ownsRow_nil _ _ _ _) B _ m c news hr h1 h63 hbytes (Nat.le_refl _)
    exact ⟨v', w', hrun, h3, h2⟩
  | some b =>
    obtain ⟨v', w', hrun, h2, h3⟩ := run_append_arg_grows (P := P) w t ty e i z size bytes ht hi hz hsize hby hzs hsz b n n xs hr0.len
      (fun j u hu => by
        have hj : j < xs.length := by
          rcases Nat.lt_or_ge j xs.length with h | h
          · exact h
          · rw [List.getElem?_eq_none h] at hu; cases hu
        rw [hr0.len] at hj
        have hn : 0 < n := by
          rcases Nat.eq_zero_or_pos n with h0 | h0
          · rw [h0, Nat.zero_mul] at hj; omega
          · exact h0
        obtain ⟨g0, o0, hb, _, hc0⟩ := hr0.at_ hn
        injection hb with hb
        subst hb
        rw [Addr.add_lit, hc0 j hj]; exact hu) ⟨g, o, none⟩ m c news hr.len hcells (by omega) h63 hbytes
    exact ⟨v', w', hrun, h3, h2⟩
end

theorem wp_full {P : Program} (w : World) {o : Oper} {a : Act} {K : Act → World → Prop} {Q : Exit → Act → World → Prop} (s x : Operand) (t : TypeId)
    (ho : o.op = .call { callee := .builtin .append, args := #[s, x], argTypes := #[t, t] })
    (e : TypeId) (i : TypeInfo) (z : Value) (size bytes : Nat) (ht : P.underlying t = some (.slice e)) (hi : P.info? e = some i) (hz : i.zero = some z)
    (hsize : i.size = size) (hby : i.bytes = bytes) (hzs : z.cells.size = size) (hsz : 0 < size) (B0 : Nat) (D : Option Addr) (n : Nat) (xs : List Value) (hs : a.eval s = .slice D n n) (hr0 : Row w B0 size D n xs)
    (B : Nat) (A : Option Addr) (m c : Nat) (news : List Value) (hx : a.eval x = .slice A m c) (hr : Row w B size A m news) (h1 : ∀ u ∈ news, u.oneCell' = true) (hm : 0 < m)
    (h63 : n + m ≤ maxLen) (hbytes : (n + m) * bytes ≤ 140737488355328)
    (h : ∀ v' w', w.grownBy w' none → w'.ownsRow w.heap.size e size v' (n + m) (xs ++ news) → K (a.put o.dst v') w') : o.wp P a w K Q := by
  obtain ⟨v', w', hrun, h2, h3⟩ := run_full (P := P) w t o.type e i z size bytes ht hi hz hsize hby hzs hsz B0 D n xs hr0 B A m c news hr h1 hm h63 hbytes
  unfold Oper.wp execOp
  simp only [ho, resolve, invoke, builtin, Sem.run_bind, Sem.run_pure, Result.andThen_ok, List.map_toArray, List.map_cons, List.map_nil, hs, hx, hrun]
  exact h v' w' h2 h3
theorem wpList_full {P : Program} (w : World) {ops : Array Oper} {rest : List Oper} {o : Oper} {a : Act} {Q : Exit → Act → World → Prop} (hgd : o.guard = none) (s x : Operand) (t : TypeId)
    (ho : o.op = .call { callee := .builtin .append, args := #[s, x], argTypes := #[t, t] })
    (e : TypeId) (i : TypeInfo) (z : Value) (size bytes : Nat) (ht : P.underlying t = some (.slice e)) (hi : P.info? e = some i) (hz : i.zero = some z)
    (hsize : i.size = size) (hby : i.bytes = bytes) (hzs : z.cells.size = size) (hsz : 0 < size) (B0 : Nat) (D : Option Addr) (n : Nat) (xs : List Value) (hs : a.eval s = .slice D n n) (hr0 : Row w B0 size D n xs)
    (B : Nat) (A : Option Addr) (m c : Nat) (news : List Value) (hx : a.eval x = .slice A m c) (hr : Row w B size A m news) (h1 : ∀ u ∈ news, u.oneCell' = true) (hm : 0 < m)
    (h63 : n + m ≤ maxLen) (hbytes : (n + m) * bytes ≤ 140737488355328)
    (h : ∀ v' w', w.grownBy w' none → w'.ownsRow w.heap.size e size v' (n + m) (xs ++ news) → wpList P ops Q rest (a.put o.dst v') w') : wpList P ops Q (o :: rest) a w :=
  wpList_plain hgd fun _ hK => wp_full w s x t ho e i z size bytes ht hi hz hsize hby hzs hsz B0 D n xs hs hr0 B A m c news hx hr h1 hm h63 hbytes fun v' w' h2 h3 => hK _ _ (h v' w' h2 h3)
theorem step_full {P : Program} {w : World} {ops : Array Oper} {o : Oper} {a : Act} {K : Act → World → Prop} {Q : Exit → Act → World → Prop} {E : Prop} (hgd : o.guard = none) (s x : Operand) (t : TypeId)
    (ho : o.op = .call { callee := .builtin .append, args := #[s, x], argTypes := #[t, t] })
    (e : TypeId) (i : TypeInfo) (z : Value) (size bytes : Nat) (ht : P.underlying t = some (.slice e)) (hi : P.info? e = some i) (hz : i.zero = some z)
    (hsize : i.size = size) (hby : i.bytes = bytes) (hzs : z.cells.size = size) (hsz : 0 < size) (B0 : Nat) (D : Option Addr) (n : Nat) (xs : List Value) (hs : a.eval s = .slice D n n) (hr0 : Row w B0 size D n xs)
    (B : Nat) (A : Option Addr) (m c : Nat) (news : List Value) (hx : a.eval x = .slice A m c) (hr : Row w B size A m news) (h1 : ∀ u ∈ news, u.oneCell' = true) (hm : 0 < m)
    (h63 : n + m ≤ maxLen) (hbytes : (n + m) * bytes ≤ 140737488355328)
    (h : ∀ v' w', w.grownBy w' none → w'.ownsRow w.heap.size e size v' (n + m) (xs ++ news) → K (a.put o.dst v') w') :
    if Region.wanted o (yielded ops a.tmps) = true then Oper.wp P o a w K Q else E := by
  have hw : Region.wanted o (yielded ops a.tmps) = true := by simp [Region.wanted, hgd]
  rw [if_pos hw]
  exact wp_full w s x t ho e i z size bytes ht hi hz hsize hby hzs hsz B0 D n xs hs hr0 B A m c news hx hr h1 hm h63 hbytes h
theorem step_appW {P : Program} {w : World} {ops : Array Oper} {o : Oper} {a : Act} {K : Act → World → Prop} {Q : Exit → Act → World → Prop} {E : Prop} (hgd : o.guard = none) (s x : Operand) (t : TypeId)
    (ho : o.op = .call { callee := .builtin .append, args := #[s, x], argTypes := #[t, t] })
    (base : Nat) (e : TypeId) (i : TypeInfo) (z : Value) (size bytes : Nat) (ht : P.underlying t = some (.slice e)) (hi : P.info? e = some i) (hz : i.zero = some z)
    (hsize : i.size = size) (hby : i.bytes = bytes) (hzs : z.cells.size = size) (hsz : 0 < size)
    (v : Value) (n : Nat) (xs : List Value) (hs : a.eval s = v) (hown : w.ownsRow base e size v n xs)
    (B : Nat) (A : Option Addr) (m c : Nat) (news : List Value) (hx : a.eval x = .slice A m c) (hr : Row w B size A m news) (h1 : ∀ u ∈ news, u.oneCell' = true)
    (h63 : n + m ≤ maxLen) (hbytes : (n + m) * bytes ≤ 140737488355328) (hbase : base ≤ w.heap.size)
    (h : ∀ v' w', w'.ownsRow base e size v' (n + m) (xs ++ news) → w.grownBy w' v.ownBlock → (v'.ownBlock = v.ownBlock ∨ v'.ownBlock = some w.heap.size) → K (a.put o.dst v') w') :
    if Region.wanted o (yielded ops a.tmps) = true then Oper.wp P o a w K Q else E := by
  have hw : Region.wanted o (yielded ops a.tmps) = true := by simp [Region.wanted, hgd]
  rw [if_pos hw]
  exact wp_app w s x t ho base e i z size bytes ht hi hz hsize hby hzs hsz v n xs hs hown B A m c news hx hr h1 h63 hbytes hbase h
theorem fresh_now (w : World) (t : TypeId) (v : Value) : Row (w.alloc (.cells #[v] t)) (w.alloc (.cells #[v] t)).heap.size 1 (some ⟨w.heap.size, 0, none⟩) 1 [v] := (Row.fresh w t 1 1 [v] rfl).more (by simp)
theorem fresh_at (w : World) (t : TypeId) (v : Value) (b : Nat) (hb : b = w.heap.size) : Row (w.alloc (.cells #[v] t)) (w.alloc (.cells #[v] t)).heap.size 1 (some ⟨b, 0, none⟩) 1 [v] := by subst hb; exact fresh_now w t v
theorem Row.allocd {w : World} {size n : Nat} {A : Option Addr} {xs : List Value} (h : Row w w.heap.size size A n xs) (o : Obj) : Row (w.alloc o) (w.alloc o).heap.size size A n xs := (h.alloc (Nat.le_refl _) o).more (by simp)
theorem Row.grew {w w' : World} {size n : Nat} {A : Option Addr} {xs : List Value} (h : Row w w.heap.size size A n xs) (g : w.grownBy w' none) : Row w' w'.heap.size size A n xs :=
  (h.keep fun k hk => g.block k hk (by simp)).more g.size
theorem Row.drewd {w : World} {size n : Nat} {A : Option Addr} {xs : List Value} (h : Row w w.heap.size size A n xs) : Row w.drew w.drew.heap.size size A n xs := h.drew
theorem below_allocd {a w : World} (h : Below a.heap.size a w) (o : Obj) : Below a.heap.size a (w.alloc o) := h.alloc h.size o
theorem below_grew {a w w' : World} (h : Below a.heap.size a w) (g : w.grownBy w' none) : Below a.heap.size a w' := h.grown g h.size (by simp)
end Go.Proofs.YtdggnnjjiolldaaGreat
