/- Rows of blocks' infos: cloned, sifted. No condition but the reach. -/
import Derived.Test.YtohocdbneopooaaPlanSort
import Derived.Test.YtohocdbneopooaaSerMem
namespace Go.Proofs.Ytohocdbneopooaa
set_option maxRecDepth 100000
open Go.Shelf Go.RowKit Go.Lib Go.Sort

def infCells (l : List Inf) : List Value := l.flatMap Inf.cells
theorem infCells_length (l : List Inf) : (infCells l).length = l.length * 5 := by
  induction l with
  | nil => rfl
  | cons a l ih => simp only [infCells, List.flatMap_cons, List.length_append, List.length_cons, Inf.cells, List.length_nil] at ih ⊢; omega
theorem infCells_cons (a : Inf) (l : List Inf) : infCells (a :: l) = .int .i64 a.id :: .int .i64 a.res :: .int .i64 a.frm :: .int .i64 a.til :: .int .i64 a.byt :: infCells l := by simp [infCells, Inf.cells]
theorem infCells_at (l : List Inf) : ∀ (k : Nat) (h : k < l.length), (infCells l)[k * 5]? = some (.int .i64 l[k].id) ∧ (infCells l)[k * 5 + 1]? = some (.int .i64 l[k].res) ∧ (infCells l)[k * 5 + 2]? = some (.int .i64 l[k].frm) ∧ (infCells l)[k * 5 + 3]? = some (.int .i64 l[k].til) ∧ (infCells l)[k * 5 + 4]? = some (.int .i64 l[k].byt) := by
  induction l with
  | nil => intro k h; simp at h
  | cons a l ih =>
    intro k h
    rw [infCells_cons]
    cases k with
    | zero => simp
    | succ k =>
      have := ih k (by simpa using h)
      rw [show (k + 1) * 5 = k * 5 + 1 + 1 + 1 + 1 + 1 from by omega]
      simpa using this
theorem infCells_snoc (l : List Inf) (s : Inf) : infCells (l ++ [s]) = infCells l ++ [.int .i64 s.id, .int .i64 s.res, .int .i64 s.frm, .int .i64 s.til, .int .i64 s.byt] := by simp [infCells, Inf.cells]
theorem infCells_one (l : List Inf) : ∀ u ∈ infCells l, u.oneCell' = true := by
  intro u hu
  simp only [infCells, Inf.cells, List.mem_flatMap, List.mem_cons, List.not_mem_nil, or_false] at hu
  obtain ⟨s, _, rfl | rfl | rfl | rfl | rfl⟩ := hu <;> rfl

/-- the cells of info k of a row -/
theorem inf_cells_at {w wr : World} {A : Option Addr} {n : Nat} {l : List Inf} {B : Nat} (hr : Row w B 5 A n (infCells l)) (hl : l.length = n) (hb : Below B w wr) (k : Nat) (hk : k < n) :
    ∃ gs o, A = some ⟨gs, o, none⟩ ∧ gs < B ∧ ∃ x, l[k]? = some x ∧ wr.cell? ⟨gs, o + k * 5, none⟩ = some (.int .i64 x.id) ∧ wr.cell? ⟨gs, o + k * 5 + 1, none⟩ = some (.int .i64 x.res) ∧ wr.cell? ⟨gs, o + k * 5 + 2, none⟩ = some (.int .i64 x.frm) ∧
      wr.cell? ⟨gs, o + k * 5 + 3, none⟩ = some (.int .i64 x.til) ∧ wr.cell? ⟨gs, o + k * 5 + 4, none⟩ = some (.int .i64 x.byt) := by
  obtain ⟨gs, o, rfl, hgs, hc⟩ := hr.at_ (by omega)
  have hkl : k < l.length := by omega
  have hs := infCells_at l k hkl
  have hx : ∀ j u, j < 5 → (infCells l)[k * 5 + j]? = some u → wr.cell? ⟨gs, o + (k * 5 + j), none⟩ = some u := fun j u hj hu => ((hb.cell (p := ⟨gs, o + (k * 5 + j), none⟩) hgs).trans (hc (k * 5 + j) (by omega))).trans hu
  exact ⟨gs, o, rfl, hgs, l[k], List.getElem?_eq_getElem hkl, hx 0 _ (by omega) hs.1, hx 1 _ (by omega) hs.2.1, hx 2 _ (by omega) hs.2.2.1, hx 3 _ (by omega) hs.2.2.2.1, hx 4 _ (by omega) hs.2.2.2.2⟩

theorem own_mono {w : World} {base base' : Nat} {e : TypeId} {size n : Nat} {v : Value} {xs : List Value} (h : w.ownsRow base e size v n xs) (hb : base' ≤ base) : w.ownsRow base' e size v n xs :=
  ⟨h.1, h.2.imp id fun ⟨g, cap, cur, h1, h2, h3⟩ => ⟨g, cap, cur, h1, Nat.le_trans hb h2, h3⟩⟩

theorem flatMap_at {α : Type} (f : α → List Value) (k : Nat) (hk : ∀ x, (f x).length = k) : ∀ (l : List α) (i j : Nat) (hi : i < l.length), j < k → (l.flatMap f)[i * k + j]? = (f l[i])[j]?
  | [], i, j, hi, _ => by simp at hi
  | a :: l, 0, j, hi, hj => by
    rw [List.flatMap_cons, Nat.zero_mul, Nat.zero_add, List.getElem?_append_left (by rw [hk]; exact hj)]; rfl
  | a :: l, i + 1, j, hi, hj => by
    have h1 : (i + 1) * k + j = k + (i * k + j) := by rw [Nat.add_mul, Nat.one_mul]; omega
    rw [List.flatMap_cons, h1, List.getElem?_append_right (by rw [hk]; omega), hk, Nat.add_sub_cancel_left]
    exact flatMap_at f k hk l i j (by simpa using hi) hj

/-- a block that is known whole shows a row of elements of k cells -/
theorem holdsK_of_cells {α : Type} [Inhabited α] {enc : α → List Value} {k : Nat} (hk : ∀ x, (enc x).length = k) {w : World} {g off : Nat} {d : Array α} (h : ∀ j, j < d.size * k → w.cell? ⟨g, off + j, none⟩ = (d.toList.flatMap enc)[j]? ∧ w.frozen? ⟨g, off + j, none⟩ = false) : HoldsK enc k w g off d := by
  intro j hj
  have hs : (flatK enc k d).size = d.size * k := size_flatK enc k d
  rw [hs] at hj
  obtain ⟨h1, h2⟩ := h j hj
  refine ⟨?_, h2⟩
  have hk0 : 0 < k := by
    rcases Nat.eq_zero_or_pos k with h0 | h0
    · subst h0; omega
    · exact h0
  have hi : j / k < d.size := (Nat.div_lt_iff_lt_mul hk0).2 hj
  have hm : j % k < k := Nat.mod_lt _ hk0
  have hd : j / k * k + j % k = j := Nat.div_add_mod' j k
  have h3 := flatMap_at enc k hk d.toList (j / k) (j % k) (by simpa using hi) hm
  rw [hd, Array.getElem_toList] at h3
  rw [h1, h3]
  have h4 : (flatK enc k d)[j]! = (enc d[j / k]!)[j % k]! := by
    unfold flatK
    rw [getElem!_pos _ j (by simpa using hj)]
    simp
  show _ = some (id (flatK enc k d)[j]!)
  rw [id, h4, getElem!_pos d (j / k) hi, getElem!_pos _ (j % k) (by rw [hk]; exact hm), List.getElem?_eq_getElem (by rw [hk]; exact hm)]
  rfl

/-- what Clone hands back: nothing, or a row of its own -/
def CloneRes (n : Nat) (l : List Inf) (w w' : World) (v : Value) : Prop :=
  (n = 0 ∧ ∃ A' c', v = .slice A' 0 c' ∧ c' ≤ 9223372036854775807 ∧ (A' = none ∨ ∃ g, A' = some ⟨g, 0, none⟩ ∧ w.heap.size ≤ g ∧ g < w'.heap.size)) ∨ (0 < n ∧ w'.ownsRow w.heap.size 71 5 v n (infCells l))

set_option maxHeartbeats 1600000 in
theorem cloneI_any (A : Option Addr) (n c : Nat) (l : List Inf) (w : World) (hr : Row w w.heap.size 5 A n (infCells l)) (hl : l.length = n) (hn : n * 40 ≤ 140737488351232) :
    Calls Try.prog 83 #[.slice A n c] w fun e w' => ∃ v, e = .returned v ∧ CloneRes n l w w' v ∧ Below w.heap.size w w' := by
  obtain ⟨i0, hi, hz0, hz1, hz2⟩ := info_parts info_inf
  have hL := hidden hl
  clear hl
  cases A with
  | none =>
    have hn0 : n = 0 := by
      rcases Nat.eq_zero_or_pos n with h | h
      · exact h
      · obtain ⟨_, _, h', _⟩ := hr.at_ h
        cases h'
    subst hn0
    have h1 := fun w : World => Lib.run_eql_slice_nil (P := Try.prog) w 67 71 none 0 c 0 0 Try.underlying67
    go_enter Try.func83, Try.ntmps83
    go_wp2
    go_ret
    exact ⟨_, rfl, .inl ⟨rfl, none, 0, rfl, by omega, .inl rfl⟩, Below.refl _ _⟩
  | some a =>
    have h1 := fun w : World => Lib.run_eql_slice_nil (P := Try.prog) w 67 71 (some a) n c 0 0 Try.underlying67
    go_enter Try.func83, Try.ntmps83
    go_wp2_with (at_builtin; refine wpList_clone _ rfl _ _ 67 rfl 71 i0 _ 5 40 Try.underlying67 hi hz0 hz1 hz2 rfl (by decide) _ rfl w.heap.size _ _ _ _ rfl (hr.alloc (Nat.le_refl _) _) (infCells_one l) (by unfold maxLen; omega) (by omega) ?_; intro v1 w1 hg1 hown1)
    go_ret
    have hb1 : Below w.heap.size w w1 := ((Below.refl _ _).alloc (Nat.le_refl _) _).grown hg1 (by simp) (fun j hj => by cases hj)
    have hs1 := hg1.size
    rw [World.size_alloc] at hs1
    rcases hown1 with ⟨rfl, rfl⟩ | hown1
    · exact ⟨_, rfl, .inl ⟨rfl, _, 0, rfl, by omega, .inr ⟨_, rfl, Nat.le_refl _, by omega⟩⟩, hb1⟩
    · refine ⟨_, rfl, ?_, hb1⟩
      rcases Nat.eq_zero_or_pos n with h0 | h0
      · subst h0
        rcases hown1.2 with ⟨rfl, _⟩ | ⟨g, cap, cur, rfl, hbg, hg, _, hcm, _⟩
        · exact .inl ⟨rfl, none, 0, rfl, by omega, .inl rfl⟩
        · exact .inl ⟨rfl, _, cap, rfl, by unfold maxLen at hcm; omega, .inr ⟨g, rfl, by simp at hbg; omega, (Array.getElem?_eq_some_iff.1 hg).1⟩⟩
      · exact .inr ⟨h0, (own_mono hown1 (by simp))⟩
end Go.Proofs.Ytohocdbneopooaa
