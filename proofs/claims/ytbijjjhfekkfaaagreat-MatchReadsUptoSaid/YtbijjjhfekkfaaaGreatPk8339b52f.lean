/- The lists of an index (by name and value) as they lie. No program is walked here. The reference's Uint and Int, walked. The reference's Quote, walked: a text in quotation marks. Condition: the text is within the reach. The loose reading of a quotation, plainly. No condition. The reference's value of a digit. No condition. -/
import Derived.Test.YtbijjjhfekkfaaaGreatPkc6c90f11
import Derived.Test.YtbijjjhfekkfaaaGreatPk3512f865
import Derived.Test.YtbijjjhfekkfaaaGreatPk33371d00
import Derived.Laws.IdiomStrings
import Derived.IntWalk
namespace Go.Proofs.YtbijjjhfekkfaaaGreat
set_option maxRecDepth 100000
open Go.RowKit

open Classical in
/-- the numbers that were laid at this name and value -/
noncomputable def ixs (G : List (Int × Lbl)) (x : Lbl) : List Int := (G.filter fun y => decide (y.2 = x)).map (·.1)
theorem ixs_same (G : List (Int × Lbl)) (n : Int) (x : Lbl) : ixs (G ++ [(n, x)]) x = ixs G x ++ [n] := by simp [ixs]
theorem ixs_other (G : List (Int × Lbl)) (n : Int) {x y : Lbl} (h : x ≠ y) : ixs (G ++ [(n, x)]) y = ixs G y := by simp [ixs, h]
theorem ixs_none {G : List (Int × Lbl)} {x : Lbl} (h : ∀ y ∈ G, y.2 ≠ x) : ixs G x = [] := by
  simp only [ixs, List.map_eq_nil_iff, List.filter_eq_nil_iff, decide_eq_true_eq]
  exact h
theorem ixs_len (G : List (Int × Lbl)) (x : Lbl) : (ixs G x).length ≤ G.length := by
  rw [ixs, List.length_map]; exact List.length_filter_le _ _

/-- the map of one name's values -/
structure Inner (w : World) (base : Nat) (oI : Nat → Option Lbl) (mi : List (Value × Value)) (G : List (Int × Lbl)) (nm : ByteArray) : Prop where
  miss : ∀ vl, atV mi (.string vl) = none → ∀ y ∈ G, y.2 ≠ ⟨nm, vl⟩
  hit : ∀ vl u, atV mi (.string vl) = some u → (∃ y ∈ G, y.2 = ⟨nm, vl⟩) ∧ w.ownsRow base 3 1 u (ixs G ⟨nm, vl⟩).length ((ixs G ⟨nm, vl⟩).map (Value.int .i64)) ∧ ∀ g, u.ownBlock = some g → oI g = some ⟨nm, vl⟩
/-- the map of names -/
structure ListsG (w : World) (base bl : Nat) (ml : List (Value × Value)) (oM : Nat → Option ByteArray) (oI : Nat → Option Lbl) (N : ByteArray → Prop) (G : List (Int × Lbl)) : Prop where
  map : MapV IsStr w bl ml
  old : base ≤ bl
  miss : ∀ nm, atV ml (.string nm) = none → ¬ N nm
  hit : ∀ nm v, atV ml (.string nm) = some v → N nm ∧ ∃ bi mi, v = .map (some bi) ∧ base ≤ bi ∧ bi ≠ bl ∧ oM bi = some nm ∧ MapV IsStr w bi mi ∧ Inner w base oI mi G nm
  all : ∀ y ∈ G, N y.2.name

theorem Inner.turn {w w' : World} {base b : Nat} {ts : List TypeId} {mp : Bool} {oI : Nat → Option Lbl} {mi : List (Value × Value)} {G : List (Int × Lbl)} {nm : ByteArray} (h : Inner w base oI mi G nm) (k : Turn b ts mp w w') (hn : 3 ∉ ts) : Inner w' base oI mi G nm :=
  ⟨h.miss, fun vl u hu => by
    obtain ⟨h1, h2, h3⟩ := h.hit vl u hu
    exact ⟨h1, k.own h2 (.inl hn), h3⟩⟩
theorem Inner.below {w w' : World} {base : Nat} {oI : Nat → Option Lbl} {mi : List (Value × Value)} {G : List (Int × Lbl)} {nm : ByteArray} (h : Inner w base oI mi G nm) (k : Below w.heap.size w w') : Inner w' base oI mi G nm :=
  ⟨h.miss, fun vl u hu => by
    obtain ⟨h1, h2, h3⟩ := h.hit vl u hu
    exact ⟨h1, own_below h2 k (Nat.le_refl _), h3⟩⟩
/-- a map was written: rows stay -/
theorem Inner.store {w w' : World} {base b : Nat} {m : List (Value × Value)} {oI : Nat → Option Lbl} {mi : List (Value × Value)} {G : List (Int × Lbl)} {nm : ByteArray} (h : Inner w base oI mi G nm) (hm : MapV IsStr w b m) (hg : w.grownBy w' (some b)) : Inner w' base oI mi G nm :=
  h.turn (Turn.of_map (base := 0) (ts := []) hm (Nat.zero_le _) hg) (by simp)

theorem ListsG.turn {w w' : World} {base b bl : Nat} {ts : List TypeId} {ml : List (Value × Value)} {oM : Nat → Option ByteArray} {oI : Nat → Option Lbl} {N : ByteArray → Prop} {G : List (Int × Lbl)} (h : ListsG w base bl ml oM oI N G) (k : Turn b ts false w w') (hn : 3 ∉ ts) : ListsG w' base bl ml oM oI N G :=
  ⟨k.mapV h.map (.inr rfl), h.old, h.miss, fun nm v hv => by
    obtain ⟨h1, bi, mi, h2, h3, h4, h5, h6, h7⟩ := h.hit nm v hv
    exact ⟨h1, bi, mi, h2, h3, h4, h5, k.mapV h6 (.inr rfl), h7.turn k hn⟩, h.all⟩
theorem ListsG.below {w w' : World} {base bl : Nat} {ml : List (Value × Value)} {oM : Nat → Option ByteArray} {oI : Nat → Option Lbl} {N : ByteArray → Prop} {G : List (Int × Lbl)} (h : ListsG w base bl ml oM oI N G) (k : Below w.heap.size w w') : ListsG w' base bl ml oM oI N G :=
  h.turn (Turn.of_below k w.heap.size [] false) (by simp)
/-- another map was written -/
theorem ListsG.store {w w' : World} {base b bl : Nat} {m ml : List (Value × Value)} {oM : Nat → Option ByteArray} {oI : Nat → Option Lbl} {N : ByteArray → Prop} {G : List (Int × Lbl)} (h : ListsG w base bl ml oM oI N G) (hm : MapV IsStr w b m) (hg : w.grownBy w' (some b)) (hb : b ≠ bl) (hM : oM b = none) : ListsG w' base bl ml oM oI N G :=
  ⟨h.map.kept (hg.block bl h.map.lt (by simpa using Ne.symm hb)), h.old, h.miss, fun nm v hv => by
    obtain ⟨h1, bi, mi, h2, h3, h4, h5, h6, h7⟩ := h.hit nm v hv
    exact ⟨h1, bi, mi, h2, h3, h4, h5, h6.kept (hg.block bi h6.lt fun e => by cases e; rw [hM] at h5; cases h5), h7.store hm hg⟩, h.all⟩

theorem listsG_new {w : World} {base bl : Nat} (h : MapV IsStr w bl []) (hb : base ≤ bl) : ListsG w base bl [] (fun _ => none) (fun _ => none) (fun _ => False) [] :=
  ⟨h, hb, fun _ _ => id, fun nm v hv => by simp [atV] at hv, by simp⟩

open Classical in
/-- a new name: an empty map was made and laid in -/
theorem ListsG.made {w w2 : World} {base bl : Nat} {ml : List (Value × Value)} {oM : Nat → Option ByteArray} {oI : Nat → Option Lbl} {N : ByteArray → Prop} {G : List (Int × Lbl)} {nm : ByteArray} (h : ListsG w base bl ml oM oI N G) (h0 : atV ml (.string nm) = none) (hB : base ≤ w.heap.size)
    (hst : MapV IsStr w2 bl (putV ml (.string nm) (.map (some w.heap.size)))) (hg : (w.alloc (.map #[] 0)).grownBy w2 (some bl)) :
    ListsG w2 base bl (putV ml (.string nm) (.map (some w.heap.size))) (fun g => if g = w.heap.size then some nm else oM g) oI (fun x => N x ∨ x = nm) G := by
  have hlt := h.map.lt
  have hnew : MapV IsStr w2 w.heap.size [] := (mapV_made IsStr w).kept (hg.block _ (by simp) (by simp; omega))
  have hal : Below w.heap.size w (w.alloc (.map #[] 0)) := (Below.refl _ _).alloc (Nat.le_refl _) _
  have ha := h.below hal
  refine ⟨hst, h.old, fun nm' hn => ?_, fun nm' v hv => ?_, fun y hy => .inl (h.all y hy)⟩
  · by_cases e : nm' = nm
    · subst e
      rw [atV_put_same] at hn
      cases hn
    · rw [atV_put_other _ _ _ (by simpa using e)] at hn
      rintro (h1 | h1)
      · exact h.miss nm' hn h1
      · exact e h1
  · by_cases e : nm' = nm
    · subst e
      rw [atV_put_same] at hv
      cases hv
      refine ⟨.inr rfl, w.heap.size, [], rfl, hB, by omega, by simp, hnew, fun vl _ y hy e => h.miss nm' h0 (by have := h.all y hy; rwa [e] at this), fun vl u hu => by simp [atV] at hu⟩
    · rw [atV_put_other _ _ _ (by simpa using e)] at hv
      obtain ⟨h1, bi, mi, h2, h3, h4, h5, h6, h7⟩ := ha.hit nm' v hv
      have h6' : bi < w.heap.size := by
        obtain ⟨_, bi2, mi2, k2, _, _, _, k6, _⟩ := h.hit nm' v hv
        rw [h2] at k2
        cases k2
        exact k6.lt
      refine ⟨.inl h1, bi, mi, h2, h3, h4, by rw [if_neg (by omega)]; exact h5, h6.kept (hg.block bi h6.lt (by simpa using h4)), h7.store ha.map hg⟩

open Classical in
/-- one more number at a name and a value -/
theorem ListsG.added {w w1 w2 w3 : World} {base bl bi k : Nat} {ml mi : List (Value × Value)} {oM : Nat → Option ByteArray} {oI : Nat → Option Lbl} {N : ByteArray → Prop} {G : List (Int × Lbl)} {x : Lbl} {n : Int} {u v' : Value} (h : ListsG w base bl ml oM oI N G)
    (ho : atV ml (.string x.name) = some (.map (some bi))) (hmi : MapV IsStr w bi mi) (hu : (atV mi (.string x.value)).getD (.slice none 0 0) = u)
    (hb1 : Below w.heap.size w w1) (hown : w2.ownsRow base 3 1 v' k ((ixs G x ++ [n]).map (Value.int .i64))) (hg2 : w1.grownBy w2 u.ownBlock) (hv : v'.ownBlock = u.ownBlock ∨ v'.ownBlock = some w1.heap.size)
    (hst : MapV IsStr w3 bi (putV mi (.string x.value) v')) (hg3 : w2.grownBy w3 (some bi)) :
    ListsG w3 base bl ml oM (fun g => if v'.ownBlock = some g then some x else oI g) N (G ++ [(n, x)]) := by
  obtain ⟨hNx, bi', mi', e1, hbi, hbne, hoM, hm', hI⟩ := h.hit _ _ ho
  cases e1
  -- the map's entries are told by its block
  have hat : ∀ vl, atV mi' (.string vl) = atV mi (.string vl) := fun vl => by
    obtain ⟨⟨es, clock, hb, _, q⟩, _⟩ := hmi
    obtain ⟨⟨es', clock', hb', _, q'⟩, _⟩ := hm'
    rw [hb] at hb'
    cases hb'
    rw [← q, ← q']
  have hlt := h.map.lt
  have hk : k = (ixs G x).length + 1 := by
    have := hown.1
    simp at this
    omega
  -- the row's block, if it has one, was this name's and value's
  have hug : ∀ g, u.ownBlock = some g → g < w.heap.size ∧ oI g = some x ∧ ∃ cs, Whole1 w g 3 cs := fun g hg => by
    cases ha : atV mi (.string x.value) with
    | none => rw [ha] at hu; rw [← hu] at hg; cases hg
    | some u' =>
      rw [ha] at hu
      simp only [Option.getD_some] at hu
      subst hu
      obtain ⟨_, q1, q2⟩ := hI.hit _ _ ((hat _).trans ha)
      refine ⟨(q1.lt g hg).2, q2 g hg, ?_⟩
      rcases q1.2 with ⟨h1, _⟩ | ⟨g', cap, cur, h1, h2, h3, _⟩
      · rw [h1] at hg; cases hg
      · rw [h1] at hg; cases hg; exact ⟨cur, h3⟩
  have hb2 : ∀ b m, MapV IsStr w b m → MapV IsStr w2 b m := fun b m hm => by
    have hm1 : MapV IsStr w1 b m := hm.kept (hb1.block b hm.lt)
    refine hm1.kept (hg2.block b hm1.lt fun e => ?_)
    obtain ⟨q1, _, cs, q3⟩ := hug b e.symm
    exact map_off hm q3 rfl
  have hb3 : ∀ b m, MapV IsStr w b m → b ≠ bi → MapV IsStr w3 b m := fun b m hm hne => by
    have hm2 := hb2 b m hm
    exact hm2.kept (hg3.block b hm2.lt (by simpa using hne))
  have hrow : ∀ (y : Lbl) (z : Value) (j : Nat) (xs : List Value), y ≠ x → w.ownsRow base 3 1 z j xs → (∀ g, z.ownBlock = some g → oI g = some y) → w3.ownsRow base 3 1 z j xs ∧ ∀ g, z.ownBlock = some g → v'.ownBlock ≠ some g := fun y z j xs hne q1 q2 => by
    have off : ∀ g, z.ownBlock = some g → u.ownBlock ≠ some g := fun g hg hu => by
      have q3 := (hug g hu).2.1
      rw [q2 g hg] at q3
      exact hne (Option.some.inj q3)
    have r1 : w1.ownsRow base 3 1 z j xs := own_below q1 hb1 (Nat.le_refl _)
    have r2 : w2.ownsRow base 3 1 z j xs := by
      refine r1.kept hg2 ?_
      cases hz : z.ownBlock with
      | none => exact .inl rfl
      | some g => exact .inr fun e => off g hz e.symm
    have r3 : w3.ownsRow base 3 1 z j xs := (Turn.of_map (base := 0) (ts := []) (hb2 _ _ hmi) (Nat.zero_le _) hg3).own r2 (.inl (by simp))
    refine ⟨r3, fun g hg e => ?_⟩
    rcases hv with hv | hv
    · rw [hv] at e
      exact off g hg e
    · rw [hv] at e
      cases e
      have := (q1.lt _ hg).2
      have := hb1.size
      omega
  have hown3 : w3.ownsRow base 3 1 v' k ((ixs G x ++ [n]).map (Value.int .i64)) := (Turn.of_map (base := 0) (ts := []) (hb2 _ _ hmi) (Nat.zero_le _) hg3).own hown (.inl (by simp))
  refine ⟨hb3 bl ml h.map (Ne.symm hbne), h.old, h.miss, fun nm v hv' => ?_, fun y hy => ?_⟩
  · by_cases e : nm = x.name
    · subst e
      rw [ho] at hv'
      cases hv'
      refine ⟨hNx, bi, _, rfl, hbi, hbne, hoM, hst, fun vl hn y hy => ?_, fun vl z hz => ?_⟩
      · by_cases ev : vl = x.value
        · subst ev; rw [atV_put_same] at hn; cases hn
        · rw [atV_put_other _ _ _ (by simpa using ev), ← hat] at hn
          rcases List.mem_append.1 hy with hy | hy
          · exact hI.miss vl hn y hy
          · simp at hy
            rw [hy]
            intro e
            exact ev (by rw [show x = (⟨x.name, vl⟩ : Lbl) from e])
      · by_cases ev : vl = x.value
        · subst ev
          rw [atV_put_same] at hz
          cases hz
          refine ⟨⟨(n, x), by simp, rfl⟩, ?_, fun g hg => by rw [if_pos hg]⟩
          show w3.ownsRow base 3 1 v' (ixs (G ++ [(n, x)]) x).length ((ixs (G ++ [(n, x)]) x).map (Value.int .i64))
          rw [ixs_same, List.length_append, List.length_singleton, ← hk]
          exact hown3
        · rw [atV_put_other _ _ _ (by simpa using ev), ← hat] at hz
          obtain ⟨⟨y, hy, q0⟩, q1, q2⟩ := hI.hit vl z hz
          have hne : (⟨x.name, vl⟩ : Lbl) ≠ x := fun e => ev (by rw [← e])
          obtain ⟨r1, r2⟩ := hrow ⟨x.name, vl⟩ z _ _ hne q1 q2
          refine ⟨⟨y, List.mem_append_left _ hy, q0⟩, ?_, fun g hg => by rw [if_neg (r2 g hg)]; exact q2 g hg⟩
          rw [ixs_other _ _ (Ne.symm hne)]
          exact r1
    · obtain ⟨k1, bj, mj, k2, k3, k4, k5, k6, k7⟩ := h.hit nm v hv'
      have hne : bj ≠ bi := fun e1 => by
        rw [e1, hoM] at k5
        exact e (Option.some.inj k5).symm
      refine ⟨k1, bj, mj, k2, k3, k4, k5, hb3 bj mj k6 hne, fun vl hn y hy => ?_, fun vl z hz => ?_⟩
      · rcases List.mem_append.1 hy with hy | hy
        · exact k7.miss vl hn y hy
        · simp at hy
          rw [hy]
          intro e2
          exact e (by rw [show x = (⟨nm, vl⟩ : Lbl) from e2])
      · obtain ⟨⟨y, hy, q0⟩, q1, q2⟩ := k7.hit vl z hz
        have hne : (⟨nm, vl⟩ : Lbl) ≠ x := fun e2 => e (by rw [← e2])
        obtain ⟨r1, r2⟩ := hrow ⟨nm, vl⟩ z _ _ hne q1 q2
        refine ⟨⟨y, List.mem_append_left _ hy, q0⟩, ?_, fun g hg => by rw [if_neg (r2 g hg)]; exact q2 g hg⟩
        rw [ixs_other _ _ (Ne.symm hne)]
        exact r1
  · rcases List.mem_append.1 hy with hy | hy
    · exact h.all y hy
    · simp at hy
      rw [hy]
      exact hNx
end Go.Proofs.YtbijjjhfekkfaaaGreat

namespace Go.Proofs.YtbijjjhfekkfaaaGreat
set_option maxRecDepth 100000
open Go.RowKit Go.Shelf

theorem bytes_back {w : World} {v : Value} {B n : Nat} {l : List UInt8} (h : w.ownsRow B 5 1 v n (Lib.byteCells l)) (hl : l.length = n) (h0 : l ≠ []) :
    (convert 254 9 v).run Tryz.prog w = .ok (.string ⟨l.toArray⟩) w := by
  have hn := List.length_pos_iff.2 h0
  rcases h.2 with ⟨rfl, hs⟩ | ⟨g, cap, cur, rfl, _⟩
  · omega
  · subst hl
    refine run_convert_bytes_back w 254 9 5 ⟨g, 0, none⟩ cap l Tryz.underlying254 Tryz.underlying5 Tryz.underlying9 fun j hj => ?_
    exact h.cells (g := g) rfl j (.int .u8 l[j].toNat) (by simp [Lib.byteCells, List.getElem?_eq_getElem hj])

set_option maxHeartbeats 2000000 in
theorem uintR_any (v : Nat) (w : World) (hv : v < 18446744073709551616) :
    Calls Tryz.prog 216 #[.int .u64 v] w fun e w' => e = .returned (.string ⟨(uintL v).toArray⟩) ∧ Below w.heap.size w w' := by
  obtain ⟨i0, hi, hz0, hz1, hz2⟩ := info_parts infoByte
  have hten := uintL_ten hv
  go_enter Tryz.func216, Tryz.ntmps216
  go_wp2_with fail
  have hO : (w.alloc (.cells #[] 5)).ownsRow w.heap.size 5 1 (.slice (some ⟨w.heap.size, 0, none⟩) 0 0) 0 (Lib.byteCells []) :=
    ⟨rfl, .inr ⟨w.heap.size, 0, #[], rfl, Nat.le_refl _, Array.getElem?_push_size, Nat.le_refl _, Nat.zero_le _, rfl, rfl⟩⟩
  have hB : Below w.heap.size w (w.alloc (.cells #[] 5)) := (Below.refl _ _).alloc (Nat.le_refl _) _
  generalize w.alloc (.cells #[] 5) = w1 at hO hB ⊢
  obtain ⟨g, hg⟩ : ∃ g, w.heap.size = g := ⟨_, rfl⟩
  have HG := hidden hg
  rw [hg] at hO hB ⊢
  go_loopw [0, 3] (fun x out wr => ∃ (k : Nat) (pre : List UInt8), x = .int .u64 k ∧ k < 18446744073709551616 ∧ wr.ownsRow g 5 1 out pre.length (Lib.byteCells pre) ∧ Hid (pre ++ uintL k = uintL v) ∧ Below g w wr) (fun x _ _ => (intOf x).toNat)
  case atStart => exact ⟨v, [], rfl, hv, hO, hidden rfl, hB⟩
  case round =>
    obtain ⟨k, pre, rfl, hk, ho, hp, hbl⟩ := hrel
    by_cases hs : k < 128
    · have h1 : ¬ (127 : Int) < (k : Int) := by omega
      have hpl := uintL_pre hp.out (by rw [uintL_small hs]; simp)
      go_wp2_with (at_builtin; refine wpList_append_own _ rfl _ _ 254 rfl g 5 i0 (.int .u8 0) 1 1 Tryz.underlying254 hi hz0 hz1 hz2 rfl (by decide) _ _ _ rfl (ho.alloc _) ⟨wr.heap.size, 0, none⟩ 1 1 [.int .u8 k] rfl rfl ?c1 ?c2 ?c3 ?c4 ?c5 ?_)
      case c2 => rfl
      case c3 => unfold maxLen; omega
      case c4 => omega
      case c5 => have := hbl.size; simp; omega
      intro v' w2 hown' hgrow _
      have hby : Lib.byteCells pre ++ [.int .u8 (k : Int)] = Lib.byteCells (uintL v) := by rw [← hp.out, uintL_small hs, Lib.byteCells_append, byteCells_one (by omega)]
      rw [hby] at hown'
      have hC := bytes_back hown' (by rw [← hp.out, uintL_small hs, List.length_append]; rfl) (uintL_ne v)
      go_wp2_with fail
      go_ret
      refine ⟨rfl, ?_⟩
      have hB2 : Below g w (wr.alloc (.cells #[.int .u8 k] 5)) := hbl.alloc (by have := hbl.size; have := HG.out; omega) _
      have := HG.out
      subst this
      exact hB2.grown hgrow (by have := hbl.size; simp; omega) (fun q hq => (ho.lt q hq).1)
    · have h1 : (127 : Int) < (k : Int) := by omega
      have hpl := uintL_pre hp.out (List.length_pos_iff.2 (uintL_ne k))
      have hch : Hid ((k : Int) % 128 + 128 = ((k % 128 + 128 : Nat) : Int)) := hidden (by omega)
      go_wp2_with (at_builtin; refine wpList_append_own _ rfl _ _ 254 rfl g 5 i0 (.int .u8 0) 1 1 Tryz.underlying254 hi hz0 hz1 hz2 rfl (by decide) _ _ _ rfl (ho.alloc _) ⟨wr.heap.size, 0, none⟩ 1 1 [.int .u8 ((k : Int) % 128 + 128)] rfl rfl ?d1 ?d2 ?d3 ?d4 ?d5 ?_)
      case d1 =>
        intro j u hj
        match j, hj with
        | 0, hj => simp at hj; subst hj; simp [Addr.add]
      case d2 => intro u hu; simp at hu; subst hu; rfl
      case d3 => unfold maxLen; omega
      case d4 => omega
      case d5 => have := hbl.size; simp; omega
      intro v' w2 hown' hgrow _
      have hby : Lib.byteCells pre ++ [.int .u8 ((k : Int) % 128 + 128)] = Lib.byteCells (pre ++ [UInt8.ofNat (k % 128 + 128)]) := by rw [Lib.byteCells_append, byteCells_one (by omega), hch.out]
      rw [hby] at hown'
      have hp2 : Hid ((pre ++ [UInt8.ofNat (k % 128 + 128)]) ++ uintL (k / 128) = uintL v) := hidden (by rw [← hp.out, uintL_big hs, List.append_assoc]; rfl)
      have hB2 : Below g w (wr.alloc (.cells #[.int .u8 ((k : Int) % 128 + 128)] 5)) := hbl.alloc (by have := hbl.size; have := HG.out; omega) _
      have hB3 := hB2.grown hgrow (by have := hbl.size; simp; omega) (fun q hq => (ho.lt q hq).1)
      clear hB2 hgrow ho hbl hch hby
      go_wp2_with fail
      go_roundw
      case rel => exact ⟨k / 128, _, by go_num, by omega, by simpa using hown', hp2, hB3⟩
      case measure => simp [intOf]; omega

theorem zz_pos {v : Int} (h : 0 ≤ v) : v * 2 = (zz v : Nat) := by
  unfold zz; rw [if_pos h]; omega
theorem zz_neg {v : Int} (h : ¬ 0 ≤ v) : -(v + 1) * 2 + 1 = (zz v : Nat) := by
  unfold zz; rw [if_neg h]; omega
end Go.Proofs.YtbijjjhfekkfaaaGreat

namespace Go.Proofs.YtbijjjhfekkfaaaGreat
set_option maxRecDepth 100000
open Go.RowKit

theorem fresh_byte (w : World) (b : UInt8) : (w.alloc (.cells #[.int .u8 (b.toNat : Int)] 5)).ownsRow w.heap.size 5 1 (.slice (some ⟨w.heap.size, 0, none⟩) 1 1) 1 (Lib.byteCells [b]) :=
  ⟨rfl, .inr ⟨w.heap.size, 1, #[.int .u8 (b.toNat : Int)], rfl, Nat.le_refl _, Array.getElem?_push_size, Nat.le_refl _, by unfold maxLen; omega, rfl, by rw [bytes_one]; rfl⟩⟩
theorem rdigit_any (n : Nat) (w : World) (hn : n < 16) :
    Calls Tryz.prog 130 #[.int .u8 n] w fun e w' => e = .returned (.string ⟨[hexD n].toArray⟩) ∧ Below w.heap.size w w' := by
  have hC := bytes_back (fresh_byte w (hexD n)) rfl (by simp)
  have hb : Below w.heap.size w (w.alloc (.cells #[.int .u8 ((hexD n).toNat : Int)] 5)) := (Below.refl _ _).alloc (Nat.le_refl _) _
  by_cases h : n < 10
  · have h1 : (n : Int) < 10 := by omega
    have e : IntKind.u8.wrap (48 + (n : Int)) = 48 + (n : Int) := by rw [IntKind.wrap_u8']; omega
    have e3 : ((hexD n).toNat : Int) = 48 + (n : Int) := by unfold hexD; rw [if_pos h]; simp; omega
    rw [e3] at hC hb
    have HB := hidden hb
    clear e3 hb
    go_enter Tryz.func130, Tryz.ntmps130
    go_wp2_with fail
    go_ret
    exact ⟨rfl, HB.out⟩
  · have h1 : ¬ (n : Int) < 10 := by omega
    have e : IntKind.u8.wrap (97 + (n : Int)) = 97 + (n : Int) := by rw [IntKind.wrap_u8']; omega
    have e2 : IntKind.u8.wrap (97 + (n : Int) - 10) = 87 + (n : Int) := by rw [IntKind.wrap_u8']; omega
    have e3 : ((hexD n).toNat : Int) = 87 + (n : Int) := by unfold hexD; rw [if_neg h]; simp; omega
    rw [e3] at hC hb
    have HB := hidden hb
    clear e3 hb
    go_enter Tryz.func130, Tryz.ntmps130
    go_wp2_with fail
    go_ret
    exact ⟨rfl, HB.out⟩

theorem str_app (a b : List UInt8) : (⟨a.toArray⟩ : ByteArray) ++ ⟨b.toArray⟩ = ⟨(a ++ b).toArray⟩ := bytes_eq (by simp)
theorem str_sub {v : ByteArray} {k : Nat} {b : UInt8} (h : v.data.toList[k]? = some b) : v.extract k (k + 1) = ⟨[b].toArray⟩ := bytes_eq (by
  have hk := (List.getElem?_eq_some_iff.1 h).1
  rw [ByteArray.data_extract, Array.toList_extract]
  simp only [List.extract]
  rw [show k + 1 - k = 1 by omega, List.drop_eq_getElem_cons hk, List.take_succ_cons, List.take_zero, (List.getElem?_eq_some_iff.1 h).2])

set_option maxHeartbeats 6400000 in
theorem rquote_any (v : ByteArray) (w : World) (hv : v.size * 4 + 2 ≤ 140737488355328) :
    Calls Tryz.prog 58 #[.string v] w fun e w' => e = .returned (.string ⟨(quoteL v.data.toList).toArray⟩) ∧ Below w.heap.size w w' := by
  go_enter Tryz.func58, Tryz.ntmps58
  go_wp2_with fail
  go_loopw [3, 4] (fun vs vi wr => ∃ (k : Nat) (s : ByteArray), vi = .int .i64 k ∧ k ≤ v.size ∧ vs = .string s ∧ Hid (s = ⟨(34 :: quoL (v.data.toList.take k)).toArray⟩) ∧ s.size ≤ 4 * k + 1 ∧ Below w.heap.size w wr) (fun _ vi _ => v.size - (intOf vi).toNat)
  case atStart => exact ⟨0, _, rfl, Nat.zero_le _, rfl, rfl, by decide, Below.refl _ _⟩
  case round =>
    obtain ⟨k, s, rfl, hk, rfl, hs, hsz, hb⟩ := hrel
    have k0 : (0 : Int) ≤ (k : Int) := by omega
    have HB := hidden hb
    clear hb
    by_cases hlt : k < v.size
    · have k1 : (k : Int) < (v.size : Int) := by omega
      obtain ⟨b, hbe, hbat⟩ := str_at hlt
      have hT := hidden (take_snoc? hbat)
      have h256 := size_lt b
      have HAT := hidden hbat
      clear hbat
      by_cases h3 : 32 ≤ b.toNat ∧ b.toNat ≤ 126
      · have i32 : ¬ (b.toNat : Int) < 32 := by omega
        have i126 : decide (126 < (b.toNat : Int)) = false := by simp; omega
        have kk1 : (k : Int) ≤ (k : Int) + 1 := by omega
        have kk2 : (k : Int) + 1 ≤ (v.size : Int) := by omega
        have kk3 : ((k : Int) + 1).toNat = k + 1 := by omega
        have kk4 : IntKind.i64.wrap ((k : Int) + 1) = (k : Int) + 1 := Go.IntWalk.i64_in _ (by omega)
        obtain ⟨X, hX⟩ : ∃ X, v.extract k (k + 1) = X := ⟨_, rfl⟩
        have HX : Hid (X = ⟨[b].toArray⟩) := by rw [Hid, ← hX]; exact str_sub HAT.out
        have z1 : X.size = 1 := by rw [HX.out]; rfl
        by_cases h1 : b.toNat = 34 ∨ b.toNat = 92
        · have HQ := hidden h1
          have hee : ((b.toNat : Int) == 34) = true ∨ (((b.toNat : Int) == 34) = false ∧ ((b.toNat : Int) == 92) = true) := by
            rcases h1 with h | h
            · exact .inl (by simp [h])
            · exact .inr ⟨by simp [h], by simp [h]⟩
          clear h1
          have hs2 : Hid (s ++ ⟨#[92]⟩ ++ X = ⟨(34 :: quoL (v.data.toList.take (k + 1))).toArray⟩) := by
            have e2 : quoB b = [92] ++ [b] := by unfold quoB; rw [if_pos HQ.out]; rfl
            rw [Hid, hs.out, HX.out, hT.out, quoL_snoc, e2]
            exact bytes_eq (by simp)
          have hz2 : (s ++ ⟨#[92]⟩ ++ X).size ≤ 4 * (k + 1) + 1 := by rw [ByteArray.size_append, ByteArray.size_append, z1, show (⟨#[92]⟩ : ByteArray).size = 1 from rfl]; omega
          have HZ2 := hidden hz2
          clear hz2
          rcases hee with e34 | ⟨e34, e92⟩
          all_goals
            go_wp2_with fail
            go_roundw
            case rel => exact ⟨k + 1, _, by go_num, by omega, rfl, hs2, HZ2.out, HB.out⟩
            case measure => simp [intOf]; omega
        · have e34 : ((b.toNat : Int) == 34) = false := by simp; omega
          have e92 : ((b.toNat : Int) == 92) = false := by simp; omega
          have hs2 : Hid (s ++ X = ⟨(34 :: quoL (v.data.toList.take (k + 1))).toArray⟩) := by
            have e2 : quoB b = [b] := by unfold quoB; rw [if_neg h1, if_pos h3]
            rw [Hid, hs.out, HX.out, hT.out, quoL_snoc, e2]
            exact bytes_eq (by simp)
          have HZ2 : Hid ((s ++ X).size ≤ 4 * (k + 1) + 1) := by rw [Hid, ByteArray.size_append, z1]; omega
          clear h1
          go_wp2_with fail
          go_roundw
          case rel => exact ⟨k + 1, _, by go_num, by omega, rfl, hs2, HZ2.out, HB.out⟩
          case measure => simp [intOf]; omega
      · have hlow : (b.toNat : Int) < 32 ∨ (¬ (b.toNat : Int) < 32 ∧ (126 : Int) < (b.toNat : Int)) := by omega
        obtain ⟨H, hH⟩ : ∃ H, b.toNat / 16 = H := ⟨_, rfl⟩
        obtain ⟨D, hD⟩ : ∃ D, b.toNat % 16 = D := ⟨_, rfl⟩
        have fH : (b.toNat : Int) / 16 = (H : Int) := by omega
        have fD : (b.toNat : Int) % 16 = (D : Int) := by omega
        have hH16 : H < 16 := by omega
        have hD16 : D < 16 := by omega
        have S1 := hidden (rdigit_any H wr hH16)
        have S2 := hidden (fun W => rdigit_any D W hD16)
        have hs2 : Hid (s ++ ⟨#[92, 120]⟩ ++ ⟨[hexD H].toArray⟩ ++ ⟨[hexD D].toArray⟩ = ⟨(34 :: quoL (v.data.toList.take (k + 1))).toArray⟩) := by
          have e2 : quoB b = [92, 120] ++ [hexD H] ++ [hexD D] := by unfold quoB; rw [if_neg (by omega), if_neg h3, hH, hD]; rfl
          rw [Hid, hs.out, hT.out, quoL_snoc, e2]
          exact bytes_eq (by simp)
        obtain ⟨X1, hX1⟩ : ∃ X, (⟨[hexD H].toArray⟩ : ByteArray) = X := ⟨_, rfl⟩
        obtain ⟨X2, hX2⟩ : ∃ X, (⟨[hexD D].toArray⟩ : ByteArray) = X := ⟨_, rfl⟩
        have z1 : X1.size = 1 := by rw [← hX1]; rfl
        have z2 : X2.size = 1 := by rw [← hX2]; rfl
        rw [hX1] at S1
        rw [hX2] at S2
        rw [hX1, hX2] at hs2
        have HZ2 : Hid ((s ++ ⟨#[92, 120]⟩ ++ X1 ++ X2).size ≤ 4 * (k + 1) + 1) := by rw [Hid, ByteArray.size_append, ByteArray.size_append, ByteArray.size_append, z1, z2, show (⟨#[92, 120]⟩ : ByteArray).size = 2 from rfl]; omega
        clear hX1 hX2 h3 hH hD
        rcases hlow with i32 | ⟨i32, i126⟩
        all_goals
          go_wp2_with fail
          refine S1.out.mono ?_
          rintro e w2 ⟨rfl, b2⟩
          go_wp2_with fail
          refine (S2.out w2).mono ?_
          rintro e w3 ⟨rfl, b3⟩
          have HB3 := hidden (HB.out.trans ((b2.trans (b3.mono b2.size)).mono HB.out.size))
          clear b2 b3
          go_wp2_with fail
          go_roundw
          case rel => exact ⟨k + 1, _, by go_num, by omega, rfl, hs2, HZ2.out, HB3.out⟩
          case measure => simp [intOf]; omega
    · obtain rfl : k = v.size := by omega
      have k1 : ¬ (v.size : Int) < (v.size : Int) := by omega
      have hfin : Hid (s ++ ⟨#[34]⟩ = ⟨(quoteL v.data.toList).toArray⟩) := by
        have hfull : v.data.toList.take v.size = v.data.toList := List.take_of_length_le (show v.data.toList.length ≤ v.size from Nat.le_refl _)
        rw [Hid, hs.out, hfull]
        exact bytes_eq (by simp [quoteL])
      go_wp2_with fail
      go_ret
      rw [hfin.out]
      exact ⟨rfl, HB.out⟩
end Go.Proofs.YtbijjjhfekkfaaaGreat

namespace Go.Proofs.YtbijjjhfekkfaaaGreat

def hexI (b : UInt8) : Nat := if hexV b < 16 then hexV b else 255
def hexB (h l : UInt8) : UInt8 := UInt8.ofNat ((hexI h * 16 % 256) ||| hexI l)
/-- one step of the loose reading: what is read, and what is left -/
def looStep : List UInt8 → UInt8 × List UInt8
  | [] => (0, [])
  | [c] => (c, [])
  | c :: d :: r => if c.toNat = 92 then (if d.toNat = 120 then (match r with | h :: l :: r2 => (hexB h l, r2) | _ => (d, r)) else (d, r)) else (c, d :: r)
/-- v was read of s, and r is left -/
inductive Loo (s : List UInt8) : List UInt8 → List UInt8 → Prop
  | here : Loo s [] s
  | more {v r : List UInt8} : Loo s v r → r ≠ [] → r.head? ≠ some 34 → Loo s (v ++ [(looStep r).1]) (looStep r).2

theorem hex_or : ∀ a b : Fin 16, (a.val * 16 % 256) ||| b.val = a.val * 16 + b.val := by decide +kernel
theorem hexB_D (b : UInt8) : hexB (hexD (b.toNat / 16)) (hexD (b.toNat % 16)) = b := by
  have hb := b.toNat_lt
  have h1 : b.toNat / 16 < 16 := by omega
  have h2 : b.toNat % 16 < 16 := by omega
  have h3 := hex_or ⟨b.toNat / 16, h1⟩ ⟨b.toNat % 16, h2⟩
  simp only at h3
  unfold hexB hexI
  rw [hexV_D h1, hexV_D h2, if_pos h1, if_pos h2, h3, show b.toNat / 16 * 16 + b.toNat % 16 = b.toNat by omega]
  simp
theorem looStep_quo (b : UInt8) (t : List UInt8) : looStep (quoB b ++ 34 :: t) = (b, 34 :: t) ∧ ∀ (x : UInt8) (r : List UInt8), looStep (quoB b ++ x :: r) = (b, x :: r) := by
  have key : ∀ (x : UInt8) (r : List UInt8), looStep (quoB b ++ x :: r) = (b, x :: r) := by
    intro x r
    unfold quoB
    by_cases h1 : b.toNat = 34 ∨ b.toNat = 92
    · rw [if_pos h1]
      have h2 : ¬ b.toNat = 120 := by omega
      simp [looStep, h2]
    · rw [if_neg h1]
      by_cases h2 : 32 ≤ b.toNat ∧ b.toNat ≤ 126
      · rw [if_pos h2]
        have h3 : ¬ b.toNat = 92 := by omega
        simp [looStep, h3]
      · rw [if_neg h2]
        have := hexB_D b
        simp [looStep, this]
  exact ⟨key _ _, key⟩
theorem quoB_head (b : UInt8) (r : List UInt8) : quoB b ++ r ≠ [] ∧ (quoB b ++ r).head? ≠ some 34 := by
  unfold quoB
  by_cases h1 : b.toNat = 34 ∨ b.toNat = 92
  · rw [if_pos h1]; simp
  · rw [if_neg h1]
    by_cases h2 : 32 ≤ b.toNat ∧ b.toNat ≤ 126
    · rw [if_pos h2]
      refine ⟨by simp, fun e => ?_⟩
      simp only [List.cons_append, List.nil_append, List.head?_cons, Option.some.injEq] at e
      exact h1 (.inl (by rw [e]; rfl))
    · rw [if_neg h2]; simp
/-- the loose reading of a right quotation reads its value -/
theorem loo_quo {u t : List UInt8} : ∀ {v r : List UInt8}, Loo (quoL u ++ 34 :: t) v r → ∃ k, v = u.take k ∧ r = quoL (u.drop k) ++ 34 :: t := by
  intro v r h
  induction h with
  | here => exact ⟨0, by simp, by simp⟩
  | @more v r h h1 h2 ih =>
    obtain ⟨k, rfl, rfl⟩ := ih
    cases hd : u.drop k with
    | nil =>
      rw [hd] at h2
      exact absurd rfl h2
    | cons b d =>
      have hu : u[k]? = some b := by
        have : (u.drop k)[0]? = some b := by rw [hd]; rfl
        rwa [List.getElem?_drop, Nat.add_zero] at this
      have hd2 : u.drop (k + 1) = d := by rw [← List.drop_drop, hd]; rfl
      have hq : quoL (b :: d) ++ 34 :: t = quoB b ++ (quoL d ++ 34 :: t) := by simp [quoL]
      have hs : looStep (quoL (b :: d) ++ 34 :: t) = (b, quoL d ++ 34 :: t) := by
        rw [hq]
        cases hx : quoL d ++ 34 :: t with
        | nil => simp at hx
        | cons x r => exact (looStep_quo b t).2 x r
      rw [hs]
      refine ⟨k + 1, ?_, by rw [hd2]⟩
      rw [List.take_add_one, hu]
      rfl
theorem loo_end {u t v r : List UInt8} (h : Loo (quoL u ++ 34 :: t) v r) (he : r = [] ∨ r.head? = some 34) : v = u ∧ r = 34 :: t := by
  obtain ⟨k, rfl, rfl⟩ := loo_quo h
  cases hd : u.drop k with
  | nil =>
    have : u.length ≤ k := List.drop_eq_nil_iff.1 hd
    exact ⟨List.take_of_length_le this, by simp [quoL]⟩
  | cons b d =>
    rw [hd] at he
    have hq : quoL (b :: d) ++ 34 :: t = quoB b ++ (quoL d ++ 34 :: t) := by simp [quoL]
    rw [hq] at he
    have := quoB_head b (quoL d ++ 34 :: t)
    rcases he with he | he
    · exact absurd he this.1
    · exact absurd he this.2
end Go.Proofs.YtbijjjhfekkfaaaGreat

namespace Go.Proofs.YtbijjjhfekkfaaaGreat
set_option maxRecDepth 100000
open Go.RowKit

theorem rvalue_any (b : UInt8) (w : World) :
    Calls Tryz.prog 124 #[.int .u8 (b.toNat : Int)] w fun e w' => e = .returned (.int .i64 (hexV b : Nat)) ∧ w = w' := by
  obtain ⟨v, hv⟩ : ∃ v : Nat, hexV b = v := ⟨_, rfl⟩
  have hb := b.toNat_lt
  obtain ⟨n, hn⟩ : ∃ n, b.toNat = n := ⟨_, rfl⟩
  rw [hv]
  unfold hexV at hv
  rw [hn] at hv hb ⊢
  clear hn
  by_cases h1 : 48 ≤ n ∧ n ≤ 57
  · rw [if_pos h1] at hv
    have a0 : (48 : Int) ≤ (n : Int) := by omega
    have a1 : (n : Int) ≤ 57 := by omega
    have HV := hidden hv
    clear hv
    go_enter Tryz.func124, Tryz.ntmps124
    go_wp2_with fail
    go_ret
    exact ⟨by rw [← HV.out]; congr 2; first | go_num | omega, rfl⟩
  · rw [if_neg h1] at hv
    by_cases h2 : 97 ≤ n ∧ n ≤ 102
    · rw [if_pos h2] at hv
      have a0 : (97 : Int) ≤ (n : Int) := by omega
      have a1 : (n : Int) ≤ 102 := by omega
      have a2 : ¬ (n : Int) ≤ 57 := by omega
      have a3 : (48 : Int) ≤ (n : Int) := by omega
      have HV := hidden hv
      clear hv
      go_enter Tryz.func124, Tryz.ntmps124
      go_wp2_with fail
      go_ret
      exact ⟨by rw [← HV.out]; congr 2; first | go_num | omega, rfl⟩
    · rw [if_neg h2] at hv
      by_cases a0 : (48 : Int) ≤ (n : Int)
      · have a1 : ¬ (n : Int) ≤ 57 := by omega
        by_cases a2 : (97 : Int) ≤ (n : Int)
        · have a3 : ¬ (n : Int) ≤ 102 := by omega
          have HV := hidden hv
          clear hv
          go_enter Tryz.func124, Tryz.ntmps124
          go_wp2_with fail
          go_ret
          exact ⟨by rw [← HV.out]; rfl, rfl⟩
        · have a3 : (n : Int) < 97 := by omega
          have HV := hidden hv
          clear hv
          go_enter Tryz.func124, Tryz.ntmps124
          go_wp2_with fail
          go_ret
          exact ⟨by rw [← HV.out]; rfl, rfl⟩
      · have a2 : ¬ (97 : Int) ≤ (n : Int) := by omega
        have a3 : (n : Int) < 48 := by omega
        have HV := hidden hv
        clear hv
        go_enter Tryz.func124, Tryz.ntmps124
        go_wp2_with fail
        go_ret
        exact ⟨by rw [← HV.out]; rfl, rfl⟩
end Go.Proofs.YtbijjjhfekkfaaaGreat
