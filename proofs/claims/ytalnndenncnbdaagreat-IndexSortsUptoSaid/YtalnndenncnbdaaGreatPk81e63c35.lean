/- index: all, and Select of no matchers. Condition: the index is one. index: Select of no matchers. Condition: the index is one. index: Find and Set, walked. Condition: the index is one; the rows are within the reach. index.Add under way, as it lies. No program is walked here. An append within a region that draws its order. Condition: the row is the call's own. -/
import Derived.Test.YtalnndenncnbdaaGreatPkf99cf16e
import Derived.Test.YtalnndenncnbdaaGreatPk4d03b8a9
import Derived.Test.YtalnndenncnbdaaGreatPkd4a53134
import Derived.Test.YtalnndenncnbdaaGreatPkfe08034b
import Derived.Test.YtalnndenncnbdaaGreatBase
namespace Go.Proofs.YtalnndenncnbdaaGreat
set_option maxRecDepth 100000
open Go.RowKit Go.Shelf

/-- the numbers below n -/
def upL (n : Nat) : List Int := (List.range n).map fun (i : Nat) => (i : Int)
theorem upL_len (n : Nat) : (upL n).length = n := by simp [upL]
theorem upL_snoc (n : Nat) : upL (n + 1) = upL n ++ [(n : Int)] := by simp [upL, List.range_succ]
theorem mem_upL {n : Nat} {x : Int} : x ∈ upL n ↔ 0 ≤ x ∧ x < (n : Int) := by
  simp only [upL, List.mem_map, List.mem_range]
  exact ⟨fun ⟨i, h1, h2⟩ => by omega, fun ⟨h1, h2⟩ => ⟨x.toNat, by omega, by omega⟩⟩
theorem upL_rising (n : Nat) : rising (upL n) := by
  induction n with
  | zero => exact List.Pairwise.nil
  | succ n ih =>
    rw [upL_snoc]
    refine List.pairwise_append.2 ⟨ih, by simp, fun a ha b hb => ?_⟩
    simp at hb
    rw [hb]
    exact (mem_upL.1 ha).2
theorem upL_int {n : Nat} (h : n ≤ 1048576) : ∀ x ∈ upL n, inI x := fun x hx => by
  have := mem_upL.1 hx
  unfold inI
  omega
theorem intF_own {w : World} {B n : Nat} {l : List Int} {v : Value} (h : w.ownsRow B 3 1 v n (l.map (Value.int .i64))) (hl : l.length = n) (hf : n * 8 ≤ 140737488351232) (hi : ∀ x ∈ l, inI x) : ∃ A c, v = .slice A n c ∧ IntF w A n l := by
  obtain ⟨A, c, rfl, _, hr⟩ := own_shape h
  exact ⟨A, c, rfl, hr, hl, hf, hi⟩
set_option maxHeartbeats 1600000 in
theorem idx_all (w : World) {base p : Nat} {E : List (List Lbl)} (h : Idx w base p E) (hE : E.length ≤ 1048576) :
    Calls Tryz.prog 43 #[.pointer (some ⟨p, 0, none⟩)] w (FCR w fun S => S = upL E.length) := by
  obtain ⟨i0, hi, hz0, hz1, hz2⟩ := info_parts info_int
  obtain ⟨sv, L, bn, bl, mn, ml, oM, oI, h, rfl⟩ := h
  obtain ⟨A, c, rfl, _, _⟩ := own_shape h.b.sets
  have c0 := h.b.blk.cell 0
  rw [List.length_map] at hE ⊢
  generalize L.length = N at *
  clear h
  go_enter Tryz.func43, Tryz.ntmps43
  go_wp2_with fail
  go_loopw [3, 10] (fun v vi wr => ∃ k : Nat, k ≤ N ∧ vi = .int .i64 (k : Int) ∧ wr.ownsRow w.heap.size 3 1 v k ((upL k).map (Value.int .i64)) ∧ Below w.heap.size w wr) (fun _ vi _ => N - (intOf vi).toNat)
  case atStart => exact ⟨0, Nat.zero_le _, rfl, World.ownsRow_nil _ _ _ _, Below.refl _ _⟩
  case round =>
    obtain ⟨k, hk, rfl, hown, hb⟩ := hrel
    by_cases hlt : k < N
    · have k1 : (k : Int) < (N : Int) := by omega
      have fwk : IntKind.i64.wrap ((k : Int) + 1) = (k : Int) + 1 := Go.IntWalk.i64_in _ (by omega)
      have hfr := Row.fresh wr 3 1 1 [.int .i64 (k : Int)] rfl
      have hbs := hb.size
      have HLT := hidden (show k + 1 ≤ N from hlt)
      go_wp2_with (at_builtin; refine wpList_app _ rfl _ _ 49 rfl w.heap.size 3 i0 _ 1 8 Tryz.underlying49 hi hz0 hz1 hz2 rfl (by decide) _ _ _ rfl (hown.alloc _) _ _ _ _ _ rfl hfr (by simp [Value.oneCell']) (by unfold maxLen; omega) (by omega) (by simp; omega) ?_; intro v1 w1 hown1 hg1 hat1)
      go_roundw
      case rel =>
        refine ⟨k + 1, HLT.out, by go_num, ?_, ?_⟩
        · rw [upL_snoc, List.map_append]; exact hown1
        · exact (hb.alloc hbs _).grown hg1 (by simp; omega) (fun j hj => (hown.lt j hj).1)
      case measure => have := HLT.out; simp [intOf]; omega
    · obtain rfl : N = k := by omega
      obtain ⟨A1, c1, rfl, hf⟩ := intF_own hown (upL_len _) (by omega) (upL_int hE)
      have S1 := hidden (ofF A1 N c1 (upL N) wr hf)
      have HB := hidden hb
      clear hf hb hown
      go_wp2_with fail
      refine S1.out.mono ?_
      rintro e w2 ⟨a, S, F, rfl, ⟨h1, h2, h3⟩, h4, h5⟩
      have HF := hidden (show FCR w (fun S => S = upL N) (.returned (.pointer a)) w2 from ⟨a, S, F, rfl, ⟨h1, fun k hk => by have := h2 k hk; have := HB.out.size; omega, HB.out.trans (h3.mono HB.out.size)⟩, rising_ext ((isCur_rise _ _ _ _ h1).1) (upL_rising N) h4⟩)
      clear h1 h2 h3 h4 h5 S1
      go_wp2_with fail
      go_ret
      exact HF.out
end Go.Proofs.YtalnndenncnbdaaGreat

namespace Go.Proofs.YtalnndenncnbdaaGreat
set_option maxRecDepth 100000
open Go.RowKit Go.Shelf

theorem eql_mp (a : Addr) (w : World) : (binOp .eql 73 (.pointer none) (.pointer (some a))).run Tryz.prog w = .ok (.bool false) w := by
  have h : ∀ d : Nat, (Op.equalIn (d + 1) 73 (.pointer none) (.pointer (some a))).run Tryz.prog w = .ok false w := fun d => by
    simp [Op.equalIn, run_underlying Tryz.underlying73]
  simp only [binOp]
  simp [Op.equal, Op.maxDepth, h 9999]
def ptrV (a : Addr) : Value := .pointer (some a)
set_option maxHeartbeats 800000 in
theorem midx_none (A : Option Addr) (n c : Nat) (ps : List Addr) (w : World) (hr : Row w w.heap.size 1 A n (ps.map ptrV)) (hl : ps.length = n) (hn : n ≤ 1099511627776) :
    Calls Tryz.prog 94 #[.slice A n c, .pointer none] w fun e w' => e = .returned (.int .i64 (-1)) ∧ w' = w := by
  have HR := hidden hr
  clear hr
  go_enter Tryz.func94, Tryz.ntmps94
  go_wp2_with fail
  go_loopw [8] (fun vi wr => ∃ k : Nat, vi = .int .i64 (k : Int) ∧ k ≤ n ∧ wr = w) (fun vi _ => n - (intOf vi).toNat)
  case atStart => exact ⟨0, rfl, Nat.zero_le _, rfl⟩
  case round =>
    obtain ⟨k, rfl, hk, rfl⟩ := hrel
    by_cases hlt : k < n
    · have k1 : (k : Int) < (n : Int) := by omega
      have k0 : (0 : Int) ≤ (k : Int) := by omega
      have fwk : IntKind.i64.wrap ((k : Int) + 1) = (k : Int) + 1 := Go.IntWalk.i64_in _ (by omega)
      obtain ⟨g, o, rfl, hg, hc⟩ := HR.out.at_ (by omega)
      obtain ⟨a, ha⟩ : ∃ a, ps[k]? = some a := ⟨_, List.getElem?_eq_getElem (by omega)⟩
      have ck : wr.cell? ⟨g, o + k, none⟩ = some (.pointer (some a)) := by rw [hc k (by omega), List.getElem?_map, ha]; rfl
      have HLT := hidden (show k + 1 ≤ n from hlt)
      have hno : ∀ w, (binOp .eql 73 (.pointer none) (.pointer (some a))).run Tryz.prog w = .ok (.bool false) w := eql_mp a
      clear hc ha
      go_wp2_with fail
      go_roundw
      case rel => exact ⟨k + 1, by go_num, HLT.out, trivial⟩
      case measure => have := HLT.out; simp [intOf]; omega
    · obtain rfl : k = n := by omega
      go_wp2_with fail
      go_ret
      exact ⟨rfl, rfl⟩
theorem mcon_none (A : Option Addr) (n c : Nat) (ps : List Addr) (w : World) (hr : Row w w.heap.size 1 A n (ps.map ptrV)) (hl : ps.length = n) (hn : n ≤ 1099511627776) :
    Calls Tryz.prog 51 #[.slice A n c, .pointer none] w fun e w' => e = .returned (.bool false) ∧ w' = w := by
  have S1 := hidden (midx_none A n c ps w hr hl hn)
  clear hr
  go_enter Tryz.func51, Tryz.ntmps51
  go_wp2_with fail
  refine S1.out.mono ?_
  rintro e w1 ⟨rfl, rfl⟩
  go_wp2_with fail
  go_ret
  exact ⟨rfl, rfl⟩
set_option maxHeartbeats 1600000 in
theorem idx_sel0 (w : World) {base p : Nat} {E : List (List Lbl)} (h : Idx w base p E) (hE : E.length ≤ 1048576) :
    Calls Tryz.prog 25 #[.pointer (some ⟨p, 0, none⟩), .slice none 0 0] w fun e w' => ∃ A c, e = .returned (.slice A E.length c) ∧ IntF w' A E.length (upL E.length) ∧ Below w.heap.size w w' := by
  have S0 := hidden (mcon_none none 0 0 [] w Row.nil rfl (by omega))
  have S1 := hidden (idx_all w h hE)
  clear h
  go_enter Tryz.func25, Tryz.ntmps25
  go_wp2_with fail
  refine S0.out.mono ?_
  rintro e w1 ⟨rfl, rfl⟩
  clear S0
  go_wp2_with fail
  refine S1.out.mono ?_
  rintro e w2 ⟨a, S, F, rfl, hF, rfl⟩
  have HF := hidden hF
  have HKR : KidRow (w2.alloc (.cells #[.pointer a] 94)) (some ⟨w2.heap.size, 0, none⟩) 1 [⟨.pointer a, upL E.length, F⟩] :=
    ⟨(Row.fresh w2 94 1 1 [.pointer a] rfl).more (by simp), rfl, by decide, by simp only [List.mem_cons, List.not_mem_nil, or_false, forall_eq]; exact isCur_on hF.1 ((Below.refl _ _).alloc (Nat.le_refl _) _), by simp⟩
  have HA := hidden (and_any _ 1 1 _ _ HKR)
  have B3 := hidden (show Below w1.heap.size w1 (w2.alloc (.cells #[.pointer a] 94)) from hF.2.2.trans (((Below.refl w2.heap.size w2).alloc (Nat.le_refl _) _).mono hF.2.2.size))
  have hF2 := hidden hF.2.1
  clear hF S1 HKR
  go_wp2_with fail
  generalize w2.alloc (.cells #[.pointer a] 94) = w3 at *
  obtain ⟨X, hX⟩ : ∃ X, w2.heap.size = X := ⟨_, rfl⟩
  rw [hX] at HA ⊢
  clear hX
  go_loopw [5, 19] (fun vp vi wr => vp = .slice (some ⟨X, 0, none⟩) 1 1 ∧ vi = .int .i64 0 ∧ w3 = wr) (fun _ _ _ => 0)
  case atStart => exact ⟨rfl, rfl, rfl⟩
  case round =>
    obtain ⟨rfl, rfl, rfl⟩ := hrel
    go_wp2_with fail
    refine HA.out.mono ?_
    intro e w4 hN
    obtain ⟨a4, S4, F4, rfl, hF4, hS4⟩ := fcr_new (ws := w1) hN (fun k ⟨x, hx, hk⟩ => by simp only [List.mem_cons, List.not_mem_nil, or_false] at hx; subst hx; exact hF2.out k hk) B3.out
    obtain rfl : S4 = upL E.length := rising_ext ((isCur_rise _ _ _ _ hF4.1).1) (upL_rising _) fun x => by rw [hS4 x]; simp
    have SR := hidden (restF hF4 (by rw [upL_len]; omega))
    rw [upL_len] at SR
    clear hF4 hS4 HA hN
    go_wp2_with fail
    refine SR.out.mono ?_
    rintro e w5 ⟨A5, c5, rfl, hf5, hb5⟩
    have HF5 := hidden hf5
    have HB5 := hidden hb5
    clear hf5 hb5 SR
    go_wp2_with fail
    go_ret
    exact ⟨A5, c5, rfl, HF5.out, HB5.out⟩
end Go.Proofs.YtalnndenncnbdaaGreat

namespace Go.Proofs.YtalnndenncnbdaaGreat
set_option maxRecDepth 100000
open Go.RowKit

theorem zero_i (w : World) : (zeroValue 3).run Tryz.prog w = .ok (.int .i64 0) w := by
  have h : (Tryz.prog.info? 3).map (fun i => i.zero) = some (some (.int .i64 0)) := by kernel_rfl
  obtain ⟨i, h1, h2⟩ := Option.map_eq_some_iff.1 h
  simp [zeroValue, typeInfo, h1, h2]
theorem keyStr : KeyEq Tryz.prog 9 (fun _ => IsStr) := keyEq_string Tryz.underlying9
theorem MapV.strs {w : World} {b : Nat} {m : List (Value × Value)} (h : MapV IsStr w b m) : ∀ p ∈ m, IsStr p.1 := h.2

theorem valid_pos {l : List Lbl} (h : validP l) : 0 < l.length := by
  rcases Nat.eq_zero_or_pos l.length with h0 | h0
  · have := h.1
    rw [makeErr, if_pos h0] at this
    cases this
  · exact h0
set_option maxHeartbeats 1600000 in
theorem idx_find (A : Option Addr) (n c : Nat) (l : List Lbl) (w : World) {base p : Nat} {E : List (List Lbl)} (h : Idx w base p E) (hl : LbF w A n l) (hnc : n ≤ c) :
    Calls Tryz.prog 11 #[.pointer (some ⟨p, 0, none⟩), .slice A n c] w fun e w' => e = .returned (.tuple #[.int .i64 (((atE E l).getD 0 : Nat) : Int), .bool (atE E l).isSome]) ∧ Below w.heap.size w w' := by
  have S1 := hidden (lenc_any A n c l w hl hnc)
  have hval := h.valid
  have H := hidden h
  obtain ⟨r, hr⟩ : ∃ r, atE E l = r := ⟨_, rfl⟩
  rw [hr]
  have HR := hidden hr
  clear h hl hr
  go_enter Tryz.func11, Tryz.ntmps11
  go_wp2_with fail
  refine S1.out.mono ?_
  rintro e w1 ⟨rfl, b1⟩
  have h1 := H.out.below b1
  by_cases hv : validP l
  · have e2 : (encLb l).2 = 0 := enc_fit.2 hv
    obtain ⟨sv, L, bn, bl, mn, ml, oM, oI, h1, rfl⟩ := h1
    have c1 := h1.b.blk.cell 1
    have hat := h1.at_ hv
    have hL := h1.b.num.look keyStr h1.b.num.strs Tryz.underlying81 (zero_i w1) (key := .string (encLb l).1) ⟨_, rfl⟩ true
    simp only [if_true] at hL
    rw [hat] at hL
    rw [HR.out] at hL
    have hL2 : (Instr.lookup 81 (.map (some bn)) (.string (encLb l).1) true).run Tryz.prog w1 = .ok (.tuple #[.int .i64 ((r.getD 0 : Nat) : Int), .bool r.isSome]) w1 := by
      rw [hL]
      cases r <;> rfl
    rw [e2]
    generalize (encLb l).1 = key at *
    clear hL hat h1 S1
    go_wp2_with fail
    go_ret2
    exact ⟨rfl, b1⟩
  · have e2 : ¬ (encLb l).2 = 0 := fun h => hv (enc_fit.1 h)
    have hne : ((encLb l).2 != 0) = true := by simpa using e2
    have hno : atE E l = none := atE_none.2 fun hm => hv (hval.1 l hm)
    obtain rfl : r = none := by rw [← HR.out]; exact hno
    generalize (encLb l).2 = er at *
    clear h1 S1
    go_wp2_with fail
    go_ret2
    exact ⟨rfl, b1⟩

set_option maxHeartbeats 1600000 in
theorem idx_set (i : Nat) (w : World) {base p : Nat} {E : List (List Lbl)} {l : List Lbl} (h : Idx w base p E) (hi : E[i]? = some l) (hE : E.length ≤ 4611686018427387904) :
    Calls Tryz.prog 10 #[.pointer (some ⟨p, 0, none⟩), .int .i64 (i : Int)] w fun e w' => ∃ v, e = .returned (.tuple #[v, .bool true]) ∧ w'.ownsRow w.heap.size 40 2 v l.length (l.flatMap Lbl.cells) ∧ Below w.heap.size w w' := by
  have S1 := hidden (idx_len w h)
  have hval := h.valid
  have hil := (List.getElem?_eq_some_iff.1 hi).1
  obtain ⟨sv, L, bn, bl, mn, ml, oM, oI, h, rfl⟩ := h
  obtain ⟨s, hs, rfl⟩ : ∃ s, L[i]? = some s ∧ s.l = l := by
    rw [List.getElem?_map] at hi
    obtain ⟨s, h1, h2⟩ := Option.map_eq_some_iff.1 hi
    exact ⟨s, h1, h2⟩
  obtain ⟨A, c, rfl, _, hr⟩ := own_shape h.b.sets
  have c0 := h.b.blk.cell 0
  rw [List.length_map] at hil
  obtain ⟨g, o, rfl, hg, hc⟩ := hr.at_ (by omega)
  have cs : w.cell? ⟨g, o + i, none⟩ = some s.v := by
    rw [hc i (by simpa using hil), List.getElem?_map, hs]; rfl
  obtain ⟨A2, c2, hv2, _, hr2⟩ := own_shape (h.b.lab s (List.mem_of_getElem? hs))
  rw [hv2] at cs
  have hsv := valid_small (hval.1 s.l (List.mem_map.2 ⟨s, List.mem_of_getElem? hs, rfl⟩))
  have S2 := hidden (ClnLbl.cloneO_any A2 s.l.length c2 s.l w hr2 rfl (by omega))
  have hpos := valid_pos (hval.1 s.l (List.mem_map.2 ⟨s, List.mem_of_getElem? hs, rfl⟩))
  have i0 : ¬ (i : Int) < 0 := by omega
  have i1 : ¬ ((L.map SetR.l).length : Int) ≤ (i : Int) := by rw [List.length_map]; omega
  have i2 : (i : Int) < (L.length : Int) := by omega
  have i3 : (0 : Int) ≤ (i : Int) := by omega
  rw [List.length_map] at S1 i1
  clear h hr hc hr2 hv2 hi hs hval hE
  go_enter Tryz.func10, Tryz.ntmps10
  go_wp2_with fail
  refine S1.out.mono ?_
  rintro e w1 ⟨rfl, rfl⟩
  go_wp2_with fail
  refine S2.out.mono ?_
  rintro e w2 ⟨v, rfl, _, _, _, _, b2, ho⟩
  have HO := hidden (ho hpos)
  go_wp2_with fail
  go_ret2
  exact ⟨v.val, rfl, HO.out, b2⟩
theorem idx_set_out (i : Int) (w : World) {base p : Nat} {E : List (List Lbl)} (h : Idx w base p E) (hi : i < 0 ∨ (E.length : Int) ≤ i) :
    Calls Tryz.prog 10 #[.pointer (some ⟨p, 0, none⟩), .int .i64 i] w fun e w' => e = .returned (.tuple #[.slice none 0 0, .bool false]) ∧ w' = w := by
  have S1 := hidden (idx_len w h)
  clear h
  go_enter Tryz.func10, Tryz.ntmps10
  by_cases hn : i < 0
  · go_wp2_with fail
    go_ret2
    exact ⟨rfl, rfl⟩
  · have hl : (E.length : Int) ≤ i := by omega
    go_wp2_with fail
    refine S1.out.mono ?_
    rintro e w1 ⟨rfl, rfl⟩
    go_wp2_with fail
    go_ret2
    exact ⟨rfl, rfl⟩
end Go.Proofs.YtalnndenncnbdaaGreat

namespace Go.Proofs.YtalnndenncnbdaaGreat
set_option maxRecDepth 100000
open Go.RowKit

theorem ListsG.iff {w : World} {base bl : Nat} {ml : List (Value × Value)} {oM : Nat → Option ByteArray} {oI : Nat → Option Lbl} {N N' : ByteArray → Prop} {G : List (Int × Lbl)} (h : ListsG w base bl ml oM oI N G) (k : ∀ x, N x ↔ N' x) : ListsG w base bl ml oM oI N' G :=
  ⟨h.map, h.old, fun nm hn hN => h.miss nm hn ((k nm).2 hN), fun nm v hv => by
    obtain ⟨h1, h2⟩ := h.hit nm v hv
    exact ⟨(k nm).1 h1, h2⟩, fun y hy => (k _).1 (h.all y hy)⟩
theorem Inner.row {w : World} {base : Nat} {oI : Nat → Option Lbl} {mi : List (Value × Value)} {G : List (Int × Lbl)} {nm : ByteArray} (h : Inner w base oI mi G nm) (vl : ByteArray) : w.ownsRow base 3 1 ((atV mi (.string vl)).getD (.slice none 0 0)) (ixs G ⟨nm, vl⟩).length ((ixs G ⟨nm, vl⟩).map (Value.int .i64)) := by
  cases h0 : atV mi (.string vl) with
  | none => rw [ixs_none (h.miss vl h0)]; exact World.ownsRow_nil _ _ _ _
  | some u => exact (h.hit vl u h0).2.1
/-- the names of what was laid -/
def nameIn (G : List (Int × Lbl)) (nm : ByteArray) : Prop := ∃ y ∈ G, y.2.name = nm
/-- an index while a set is added: its numbers so far -/
structure AddI (w0 w : World) (base p : Nat) (sv : Value) (L : List SetR) (bn bl : Nat) (mn : List (Value × Value)) (G : List (Int × Lbl)) : Prop where
  b : IdxB w base p sv L bn bl mn
  lists : ∃ ml oM oI, ListsG w base bl ml oM oI (nameIn G) G ∧ oM bn = none
  turn : Turn base [84, 23, 3] true w0 w
theorem AddI.below {w0 w w' : World} {base p bn bl : Nat} {sv : Value} {L : List SetR} {mn : List (Value × Value)} {G : List (Int × Lbl)} (h : AddI w0 w base p sv L bn bl mn G) (hb : Below w.heap.size w w') : AddI w0 w' base p sv L bn bl mn G := by
  obtain ⟨ml, oM, oI, h1, h2⟩ := h.lists
  exact ⟨h.b.turn (Turn.of_below hb base [] false) (by simp) (by simp) (by simp), ⟨ml, oM, oI, h1.below hb, h2⟩, h.turn.trans (Turn.of_below hb _ _ _)⟩
theorem own_downA {w : World} {B B' n sz : Nat} {e : TypeId} {v : Value} {xs : List Value} (h : w.ownsRow B e sz v n xs) (hB : B' ≤ B) : w.ownsRow B' e sz v n xs :=
  ⟨h.1, h.2.imp id fun ⟨g, cap, cur, h1, h2, r⟩ => ⟨g, cap, cur, h1, Nat.le_trans hB h2, r⟩⟩
/-- labels in a block of labels -/
structure LbT (w : World) (A : Option Addr) (n : Nat) (l : List Lbl) : Prop where
  f : LbF w A n l
  t : 0 < n → ∀ g o, A = some ⟨g, o, none⟩ → ∃ cs, Whole1 w g 40 cs
theorem LbT.turn {w w' : World} {A : Option Addr} {n : Nat} {l : List Lbl} {base : Nat} {ts : List TypeId} {mp : Bool} (h : LbT w A n l) (k : Turn base ts mp w w') (hn : 40 ∉ ts) : LbT w' A n l := by
  have hk : 0 < n → ∀ g o, A = some ⟨g, o, none⟩ → w'.heap[g]? = w.heap[g]? := fun h0 g o e => by
    obtain ⟨cs, hw⟩ := h.t h0 g o e
    exact (show w'.heap[g]? = some (.cells cs 40 (0, 0)) from k.whole hw (.inr hn)).trans (show w.heap[g]? = some (.cells cs 40 (0, 0)) from hw).symm
  refine ⟨⟨⟨h.f.row.len, fun h0 => ?_⟩, h.f.len, h.f.fit, h.f.sz⟩, fun h0 g o e => ?_⟩
  · obtain ⟨g, o, e, hb, hc⟩ := h.f.row.at_ h0
    exact ⟨g, o, e, Nat.lt_of_lt_of_le hb k.size, fun j hj => (World.cell?_of_block (w := w) (a := ⟨g, o + j, none⟩) (hk h0 g o e)).trans (hc j hj)⟩
  · obtain ⟨cs, hw⟩ := h.t h0 g o e
    exact ⟨cs, k.whole hw (.inr hn)⟩
theorem LbT.below {w w' : World} {A : Option Addr} {n : Nat} {l : List Lbl} (h : LbT w A n l) (hb : Below w.heap.size w w') : LbT w' A n l := h.turn (Turn.of_below hb 0 [] false) (by simp)
theorem lbT_own {w : World} {B n : Nat} {l : List Lbl} {A : Option Addr} {c : Nat} (h : w.ownsRow B 40 2 (.slice A n c) n (l.flatMap Lbl.cells)) (hl : LbF w A n l) : LbT w A n l :=
  ⟨hl, fun h0 g o e => by
    rcases h.2 with ⟨_, h1⟩ | ⟨g', cap, cur, h1, _, h3, _⟩
    · omega
    · simp only [Value.slice.injEq] at h1
      rw [h1.1] at e
      simp only [Option.some.injEq, Addr.mk.injEq] at e
      rw [← e.1]
      exact ⟨cur, h3⟩⟩
/-- the sets' row has grown, and was laid -/
theorem IdxB.grown {w w3 w10 : World} {base p bn bl : Nat} {sv v10 nv : Value} {L : List SetR} {mn : List (Value × Value)} {l : List Lbl} (h : IdxB w base p sv L bn bl mn) (hb : base ≤ w.heap.size) (b3 : Below w.heap.size w w3) (ho3 : w3.ownsRow w.heap.size 40 2 nv l.length (l.flatMap Lbl.cells))
    (hown : w10.ownsRow base 23 1 v10 (L.length + 1) (L.map SetR.v ++ [nv])) (hg : w3.grownBy w10 sv.ownBlock) :
    Whole1 w10 p 84 #[sv, .map (some bn), .map (some bl)] ∧ IdxB (w10.setCell ⟨p, 0, none⟩ v10) base p v10 (L ++ [⟨nv, l⟩]) bn bl mn ∧ Turn base [84, 23] false w (w10.setCell ⟨p, 0, none⟩ v10) := by
  have t3 := Turn.of_below b3 base [84, 23] false
  have h3 := h.turn (Turn.of_below b3 base [] false) (by simp) (by simp) (by simp)
  have t10 : Turn base [23] false w3 w10 := Turn.of_own h3.sets (Nat.le_refl _) (by simp) hg
  have hp10 : Whole1 w10 p 84 #[sv, .map (some bn), .map (some bl)] := t10.whole h3.blk (.inr (by decide))
  have t11 : Turn base [84] false w10 (w10.setCell ⟨p, 0, none⟩ v10) := Turn.put hp10 h.pb (by simp) 0 v10
  refine ⟨hp10, ⟨hp10.put 0 v10, h.pb, ?_, fun s hs => ?_, t11.mapV (t10.mapV h3.num (.inr rfl)) (.inr rfl), h.nb, h.ne⟩, ?_⟩
  · have := t11.own hown (.inl (by decide))
    simpa using this
  · rcases List.mem_append.1 hs with hs | hs
    · exact t11.own (t10.own (h3.lab s hs) (.inl (by decide))) (.inl (by decide))
    · rw [List.mem_singleton.1 hs]
      exact own_downA (t11.own (t10.own ho3 (.inl (by decide))) (.inl (by decide))) hb
  · exact t3.trans ((t10.wider (Nat.le_refl _) (by simp) (by simp)).trans (t11.wider (Nat.le_refl _) (by simp) (by simp)))
/-- one label more was laid -/
theorem AddI.step {w0 w W1 w10 w11 : World} {base p bn bl bi k : Nat} {sv : Value} {L : List SetR} {mn ml mi : List (Value × Value)} {oM : Nat → Option ByteArray} {oI : Nat → Option Lbl} {N : ByteArray → Prop} {G : List (Int × Lbl)} {x : Lbl} {n : Int} {u v' : Value} {xs : List Value} {j : Nat}
    (hB : IdxB w base p sv L bn bl mn) (hL : ListsG w base bl ml oM oI N G) (hN : ∀ nm, N nm ↔ (nameIn G nm ∨ nm = x.name)) (hoM : oM bn = none) (ho : atV ml (.string x.name) = some (.map (some bi))) (hT : Turn base [84, 23, 3] true w0 w)
    (hmi : MapV IsStr w bi mi) (hbi : base ≤ bi) (hoi : oM bi = some x.name) (hu : (atV mi (.string x.value)).getD (.slice none 0 0) = u) (hb1 : Below w.heap.size w W1) (hua : W1.ownsRow base 3 1 u j xs) (hown : w10.ownsRow base 3 1 v' k ((ixs G x).map (Value.int .i64) ++ [.int .i64 n])) (hg2 : W1.grownBy w10 u.ownBlock)
    (hv : v'.ownBlock = u.ownBlock ∨ v'.ownBlock = some W1.heap.size) (hst : MapV IsStr w11 bi (putV mi (.string x.value) v')) (hg3 : w10.grownBy w11 (some bi)) :
    AddI w0 w11 base p sv L bn bl mn (G ++ [(n, x)]) ∧ ∀ A k l, LbT w A k l → LbT w11 A k l := by
  have hLn := hL.added ho hmi hu hb1 (by rw [List.map_append]; exact hown) hg2 hv hst hg3
  have t1 : Turn base [] false w W1 := Turn.of_below hb1 _ _ _
  have t2 : Turn base [3] false W1 w10 := Turn.of_own hua (Nat.le_refl _) (by simp) hg2
  have m10 := t2.mapV (t1.mapV hmi (.inr rfl)) (.inr rfl)
  have t3 : Turn base [] true w10 w11 := Turn.of_map m10 hbi hg3
  have hne : bi ≠ bn := fun e => by rw [e, hoM] at hoi; cases hoi
  have hB' := ((hB.turn t1 (by simp) (by simp) (by simp)).turn t2 (by decide) (by decide) (by decide)).store m10 hg3 hne
  refine ⟨⟨hB', ⟨_, _, _, hLn.iff fun nm => ?_, ?_⟩, ?_⟩, fun A k l h => ((h.turn t1 (by simp)).turn t2 (by decide)).turn t3 (by simp)⟩
  · rw [hN]
    constructor
    · rintro (⟨y, hy, e⟩ | e)
      · exact ⟨y, List.mem_append_left _ hy, e⟩
      · exact ⟨(n, x), by simp, e.symm⟩
    · rintro ⟨y, hy, e⟩
      rcases List.mem_append.1 hy with hy | hy
      · exact .inl ⟨y, hy, e⟩
      · rw [List.mem_singleton.1 hy] at e
        exact .inr e.symm
  · exact hoM
  · exact hT.trans ((t1.wider (Nat.le_refl _) (by simp) (by simp)).trans ((t2.wider (Nat.le_refl _) (by simp) (by simp)).trans (t3.wider (Nat.le_refl _) (by simp) id)))
end Go.Proofs.YtalnndenncnbdaaGreat

namespace Go.Proofs.YtalnndenncnbdaaGreat
set_option maxRecDepth 100000
open Go.RowKit

section
variable {P : Program} (w : World)
theorem step_appA {ops : Array Oper} {o : Oper} {a : Act} {K : Act → World → Prop} {Q : Exit → Act → World → Prop} {E : Prop} (hgd : o.guard = none) (s x : Operand) (t : TypeId)
    (ho : o.op = .call { callee := .builtin .append, args := #[s, x], argTypes := #[t, t] })
    (base : Nat) (e : TypeId) (i : TypeInfo) (z : Value) (size bytes : Nat) (ht : P.underlying t = some (.slice e)) (hi : P.info? e = some i) (hz : i.zero = some z)
    (hsize : i.size = size) (hby : i.bytes = bytes) (hzs : z.cells.size = size) (hsz : 0 < size)
    (v : Value) (n : Nat) (xs : List Value) (hs : a.eval s = v) (hown : w.ownsRow base e size v n xs)
    (B : Nat) (A : Option Addr) (m c : Nat) (news : List Value) (hx : a.eval x = .slice A m c) (hr : Row w B size A m news) (h1 : ∀ u ∈ news, u.oneCell' = true)
    (h63 : n + m ≤ maxLen) (hbytes : (n + m) * bytes ≤ 140737488355328) (hbase : base ≤ w.heap.size)
    (h : ∀ v' w', w'.ownsRow base e size v' (n + m) (xs ++ news) → w.grownBy w' v.ownBlock → (v'.ownBlock = v.ownBlock ∨ v'.ownBlock = some w.heap.size) → K (a.put o.dst v') w') :
    if Region.wanted o (yielded ops a.tmps) = true then Oper.wp P o a w K Q else E := by
  have hw : Region.wanted o (yielded ops a.tmps) = true := by simp [Region.wanted, hgd]
  rw [if_pos hw]
  exact wp_app w s x t ho base e i z size bytes ht hi hz hsize hby hzs hsz v n xs hs hown B A m c news hx hr h1 h63 hbytes hbase h
end
end Go.Proofs.YtalnndenncnbdaaGreat
