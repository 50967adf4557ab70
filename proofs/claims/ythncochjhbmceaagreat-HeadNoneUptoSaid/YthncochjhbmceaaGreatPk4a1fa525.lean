/- almanaclaw13.wakes: it holds. What the laws of cursors call: each as it tells of plain lists. Condition: the rows are within the reach. index: all, and Select of no matchers. Condition: the index is one. index: Select of no matchers. Condition: the index is one. Spans, and times taken away, as they lie. No condition. Spans, plainly: the one list of some times; joined, clipped, covered. No program. slices.Clone at spans: a copy of the call's own. Condition: the row is within the reach. -/
import Derived.Test.YthncochjhbmceaaGreatPkc4702785
import Derived.Test.YthncochjhbmceaaGreatPkdffa1c1c
import Derived.Test.YthncochjhbmceaaGreatPk8f29ada1
import Derived.Test.YthncochjhbmceaaGreatPk56b5c2ce
namespace Go.Proofs.YthncochjhbmceaaGreat
set_option maxRecDepth 100000
open Go.RowKit Go.Shelf

theorem isCur_ptr {w : World} {p : Value} {E : List Int} {F : Nat → Prop} (h : IsCur w p E F) : ∃ a, p = .pointer a := by
  obtain ⟨d, ⟨rfl, _⟩ | ⟨b, v, fr, dn, E0, F0, rfl, _⟩⟩ := h
  · exact ⟨_, rfl⟩
  · exact ⟨_, rfl⟩
theorem isCur_on {w w' : World} {p : Value} {E : List Int} {F : Nat → Prop} (h : IsCur w p E F) (hb : Below w.heap.size w w') : IsCur w' p E F :=
  isCur_frame _ _ _ _ _ h hb.size fun k hk => hb.block k (isCur_old _ _ _ _ h k hk)
theorem isCur_kp {w w' : World} {p : Value} {E : List Int} {F G : Nat → Prop} (h : IsCur w p E F) (hk : Kp G w w') (hd : ∀ k, ¬ (F k ∧ G k)) : IsCur w' p E F :=
  isCur_frame _ _ _ _ _ h hk.size fun k hF => hk.block k (isCur_old _ _ _ _ h k hF) fun hG => hd k ⟨hF, hG⟩
/-- a call returned a new cursor over this very list -/
theorem of_lit (l : List Int) (c : Nat) (w : World) (hl : l.length * 8 ≤ 140737488351232) (hI : ∀ x ∈ l, inI x) (hr : rising l) :
    Calls Tryz.prog 123 #[.slice (some ⟨w.heap.size, 0, none⟩) l.length c] (w.alloc (.cells (l.map (Value.int .i64)).toArray 3)) (NewCur w (fun _ => False) (· = l)) := by
  have hb : Below w.heap.size w (w.alloc (.cells (l.map (Value.int .i64)).toArray 3)) := (Below.refl _ _).alloc (Nat.le_refl _) _
  have hf := Row.fresh w 3 1 l.length (l.map (Value.int .i64)) (by simp)
  refine (of_any _ l.length c l _ (hf.more (by simp)) hl hI).mono ?_
  rintro e w' ⟨p, E, F, rfl, h1, ⟨h2, _⟩, h3, h4⟩
  refine ⟨p, E, F, rfl, h1, rising_ext (isCur_rise _ _ _ _ h1).1 hr h2, fun k hk => (h3 k hk).imp (fun h => by simp at h; omega) id, hb.trans (h4.mono (by simp))⟩

end Go.Proofs.YthncochjhbmceaaGreat

namespace Go.Proofs.YthncochjhbmceaaGreat
set_option maxRecDepth 100000
open Go.RowKit Go.Shelf

structure IntF (w : World) (A : Option Addr) (n : Nat) (l : List Int) : Prop where
  row : Row w w.heap.size 1 A n (l.map (Value.int .i64))
  len : l.length = n
  fit : n * 8 ≤ 140737488351232
  ints : ∀ x ∈ l, inI x
theorem IntF.on {w w' : World} {A : Option Addr} {n : Nat} {l : List Int} (h : IntF w A n l) (hb : Below w.heap.size w w') : IntF w' A n l := ⟨(h.row.below hb).more hb.size, h.len, h.fit, h.ints⟩
/-- a cursor that was made behind the world ws -/
def FC (ws w : World) (p : Value) (E : List Int) (F : Nat → Prop) : Prop := IsCur w p E F ∧ (∀ k, F k → ws.heap.size ≤ k) ∧ Below ws.heap.size ws w
def FCR (ws : World) (Q : List Int → Prop) (e : Ending) (w' : World) : Prop := ∃ a E F, e = .returned (.pointer a) ∧ FC ws w' (.pointer a) E F ∧ Q E
theorem fcr_new {ws w : World} {G : Nat → Prop} {Q : List Int → Prop} {e : Ending} {w' : World} (h : NewCur w G Q e w') (hG : ∀ k, G k → ws.heap.size ≤ k) (hb : Below ws.heap.size ws w) : FCR ws Q e w' := by
  obtain ⟨p, E, F, rfl, h1, h2, h3, h4⟩ := h
  obtain ⟨a, rfl⟩ := isCur_ptr h1
  refine ⟨a, E, F, rfl, ⟨h1, fun k hk => ?_, hb.trans (h4.mono hb.size)⟩, h2⟩
  rcases h3 k hk with h | h
  · have := hb.size; omega
  · exact hG k h

/-- post.Of at a list that came in -/
theorem ofF (A : Option Addr) (n c : Nat) (l : List Int) (w : World) (h : IntF w A n l) :
    Calls Tryz.prog 123 #[.slice A n c] w (FCR w fun E => (∀ x, x ∈ E ↔ x ∈ l) ∧ E.length ≤ n) :=
  (of_any A n c l w h.row h.fit h.ints).mono fun _ _ k => fcr_new k (fun _ h => h.elim) (Below.refl _ _)
/-- two cursors handed over -/
theorem pair_row {ws w1 w2 : World} {a1 a2 : Option Addr} {E1 E2 : List Int} {F1 F2 : Nat → Prop} (h1 : FC ws w1 (.pointer a1) E1 F1) (h2 : FC w1 w2 (.pointer a2) E2 F2) :
    KidRow (w2.alloc (.cells #[.pointer a1, .pointer a2] 208)) (some ⟨w2.heap.size, 0, none⟩) 2 [⟨.pointer a1, E1, F1⟩, ⟨.pointer a2, E2, F2⟩] ∧
    (∀ k, gOf [⟨.pointer a1, E1, F1⟩, ⟨.pointer a2, E2, F2⟩] k → ws.heap.size ≤ k) ∧ Below ws.heap.size ws (w2.alloc (.cells #[.pointer a1, .pointer a2] 208)) := by
  obtain ⟨c1, f1, b1⟩ := h1
  obtain ⟨c2, f2, b2⟩ := h2
  have hb3 : Below w2.heap.size w2 (w2.alloc (.cells #[.pointer a1, .pointer a2] 208)) := (Below.refl _ _).alloc (Nat.le_refl _) _
  have hap : ∀ k, F1 k → ¬ F2 k := fun k a b => by
    have := isCur_old _ _ _ _ c1 k a
    have := f2 k b
    omega
  refine ⟨⟨(Row.fresh w2 208 1 2 [.pointer a1, .pointer a2] rfl).more (by simp), rfl, by decide, ?_, by simp; exact hap⟩, fun k ⟨x, hx, hk⟩ => ?_, b1.trans ((b2.trans (hb3.mono b2.size)).mono b1.size)⟩
  · simp only [List.mem_cons, List.not_mem_nil, or_false, forall_eq_or_imp, forall_eq]
    exact ⟨isCur_on (isCur_on c1 b2) hb3, isCur_on c2 hb3⟩
  · simp only [List.mem_cons, List.not_mem_nil, or_false] at hx
    rcases hx with rfl | rfl
    · exact f1 k hk
    · have := f2 k hk
      have := b1.size
      omega
section
variable {ws w1 w2 : World} {a1 a2 : Option Addr} {E1 E2 : List Int} {F1 F2 : Nat → Prop} (h1 : FC ws w1 (.pointer a1) E1 F1) (h2 : FC w1 w2 (.pointer a2) E2 F2)
include h1 h2
theorem andF : Calls Tryz.prog 81 #[.slice (some ⟨w2.heap.size, 0, none⟩) 2 2] (w2.alloc (.cells #[.pointer a1, .pointer a2] 208)) (FCR ws fun E => ∀ x, x ∈ E ↔ x ∈ E1 ∧ x ∈ E2) := by
  obtain ⟨k1, k2, k3⟩ := pair_row h1 h2
  refine (and_any _ 2 2 _ _ k1).mono fun e w' k => ?_
  obtain ⟨a, E, F, r1, r2, r3⟩ := fcr_new k k2 k3
  exact ⟨a, E, F, r1, r2, fun x => by rw [r3 x]; simp⟩
theorem orF : Calls Tryz.prog 125 #[.slice (some ⟨w2.heap.size, 0, none⟩) 2 2] (w2.alloc (.cells #[.pointer a1, .pointer a2] 208)) (FCR ws fun E => ∀ x, x ∈ E ↔ x ∈ E1 ∨ x ∈ E2) := by
  obtain ⟨k1, k2, k3⟩ := pair_row h1 h2
  refine (or_any _ 2 2 _ _ k1).mono fun e w' k => ?_
  obtain ⟨a, E, F, r1, r2, r3⟩ := fcr_new k k2 k3
  exact ⟨a, E, F, r1, r2, fun x => by rw [r3 x]; simp⟩
theorem withoutF : Calls Tryz.prog 124 #[.pointer a1, .pointer a2] w2 (FCR ws fun E => ∀ x, x ∈ E ↔ x ∈ E1 ∧ x ∉ E2) := by
  obtain ⟨c1, f1, b1⟩ := h1
  obtain ⟨c2, f2, b2⟩ := h2
  have hs := b1.size
  refine (without_any ⟨.pointer a1, E1, F1⟩ ⟨.pointer a2, E2, F2⟩ w2 (isCur_on c1 b2) c2 fun k ⟨a, b⟩ => ?_).mono fun e w' k => fcr_new k (fun k hk => ?_) (b1.trans (b2.mono hs))
  · have := isCur_old _ _ _ _ c1 k a
    have := f2 k b
    omega
  · rcases hk with h | h
    · exact f1 k h
    · have := f2 k h; omega
end
/-- all that is left -/
theorem restF {ws w : World} {a : Option Addr} {E : List Int} {F : Nat → Prop} (h : FC ws w (.pointer a) E F) (hl : E.length * 8 ≤ 140737488351232) :
    Calls Tryz.prog 82 #[.pointer a] w fun e w' => ∃ A c, e = .returned (.slice A E.length c) ∧ IntF w' A E.length E ∧ Below ws.heap.size ws w' := by
  obtain ⟨h1, h2, h3⟩ := h
  have hI := (isCur_rise _ _ _ _ h1).2
  refine (rest_cur _ E F w h1 (by omega)).mono ?_
  rintro e w' ⟨v, rfl, ho, _, hk⟩
  obtain ⟨A, c, rfl, _, hr⟩ := own_shape ho
  exact ⟨A, c, rfl, ⟨hr, rfl, hl, hI⟩, h3.trans (hk.below h2 h3.size)⟩
theorem FC.rising {ws w : World} {p : Value} {E : List Int} {F : Nat → Prop} (h : FC ws w p E F) : rising E := (isCur_rise _ _ _ _ h.1).1
theorem rising_nodup {E : List Int} (h : rising E) : E.Nodup := h.imp fun h => by omega
/-- a rising list among so many elements is no longer -/
theorem rising_le {E l : List Int} (h : rising E) (hm : ∀ x ∈ E, x ∈ l) : E.length ≤ l.length := by
  induction E generalizing l with
  | nil => simp
  | cons e E ih =>
    obtain ⟨h1, h2⟩ := List.pairwise_cons.1 h
    obtain ⟨l1, l2, rfl⟩ := List.append_of_mem (hm e (by simp))
    have := ih (l := l1 ++ l2) h2 fun x hx => by
      have hx2 := hm x (by simp [hx])
      have hne := h1 x hx
      rcases List.mem_append.1 hx2 with hx2 | hx2
      · exact List.mem_append_left _ hx2
      · rcases List.mem_cons.1 hx2 with e | hx2
        · omega
        · exact List.mem_append_right _ hx2
    simp only [List.length_append, List.length_cons] at this ⊢
    omega
end Go.Proofs.YthncochjhbmceaaGreat

namespace Go.Proofs.YthncochjhbmceaaGreat
set_option maxRecDepth 100000
open Go.RowKit Go.Shelf

/-- the numbers below n -/
def upL (n : Nat) : List Int := (List.range n).map fun (i : Nat) => (i : Int)
theorem upL_len (n : Nat) : (upL n).length = n := by simp [upL]
theorem upL_snoc (n : Nat) : upL (n + 1) = upL n ++ [(n : Int)] := by simp [upL, List.range_succ]
theorem mem_upL {n : Nat} {x : Int} : x ∈ upL n ↔ 0 ≤ x ∧ x < (n : Int) := by
  simp only [upL, List.mem_map, List.mem_range]
  exact ⟨fun ⟨i, h1, h2⟩ => by omega, fun ⟨h1, h2⟩ => ⟨x.toNat, by omega, by omega⟩⟩
theorem upL_rising (n : Nat) : rising (upL n) := by
  induction n with
  | zero => exact List.Pairwise.nil
  | succ n ih =>
    rw [upL_snoc]
    refine List.pairwise_append.2 ⟨ih, by simp, fun a ha b hb => ?_⟩
    simp at hb
    rw [hb]
    exact (mem_upL.1 ha).2
theorem upL_int {n : Nat} (h : n ≤ 1048576) : ∀ x ∈ upL n, inI x := fun x hx => by
  have := mem_upL.1 hx
  unfold inI
  omega
theorem intF_own {w : World} {B n : Nat} {l : List Int} {v : Value} (h : w.ownsRow B 3 1 v n (l.map (Value.int .i64))) (hl : l.length = n) (hf : n * 8 ≤ 140737488351232) (hi : ∀ x ∈ l, inI x) : ∃ A c, v = .slice A n c ∧ IntF w A n l := by
  obtain ⟨A, c, rfl, _, hr⟩ := own_shape h
  exact ⟨A, c, rfl, hr, hl, hf, hi⟩
set_option maxHeartbeats 1600000 in
theorem idx_all (w : World) {base p : Nat} {E : List (List Lbl)} (h : Idx w base p E) (hE : E.length ≤ 1048576) :
    Calls Tryz.prog 79 #[.pointer (some ⟨p, 0, none⟩)] w (FCR w fun S => S = upL E.length) := by
  obtain ⟨i0, hi, hz0, hz1, hz2⟩ := info_parts info_int
  obtain ⟨sv, L, bn, bl, mn, ml, oM, oI, h, rfl⟩ := h
  obtain ⟨A, c, rfl, _, _⟩ := own_shape h.b.sets
  have c0 := h.b.blk.cell 0
  rw [List.length_map] at hE ⊢
  generalize L.length = N at *
  clear h
  go_enter Tryz.func79, Tryz.ntmps79
  go_wp2_with fail
  go_loopw [3, 10] (fun v vi wr => ∃ k : Nat, k ≤ N ∧ vi = .int .i64 (k : Int) ∧ wr.ownsRow w.heap.size 3 1 v k ((upL k).map (Value.int .i64)) ∧ Below w.heap.size w wr) (fun _ vi _ => N - (intOf vi).toNat)
  case atStart => exact ⟨0, Nat.zero_le _, rfl, World.ownsRow_nil _ _ _ _, Below.refl _ _⟩
  case round =>
    obtain ⟨k, hk, rfl, hown, hb⟩ := hrel
    by_cases hlt : k < N
    · have k1 : (k : Int) < (N : Int) := by omega
      have fwk : IntKind.i64.wrap ((k : Int) + 1) = (k : Int) + 1 := Go.IntWalk.i64_in _ (by omega)
      have hfr := Row.fresh wr 3 1 1 [.int .i64 (k : Int)] rfl
      have hbs := hb.size
      have HLT := hidden (show k + 1 ≤ N from hlt)
      go_wp2_with (at_builtin; refine wpList_app _ rfl _ _ 127 rfl w.heap.size 3 i0 _ 1 8 Tryz.underlying127 hi hz0 hz1 hz2 rfl (by decide) _ _ _ rfl (hown.alloc _) _ _ _ _ _ rfl hfr (by simp [Value.oneCell']) (by unfold maxLen; omega) (by omega) (by simp; omega) ?_; intro v1 w1 hown1 hg1 hat1)
      go_roundw
      case rel =>
        refine ⟨k + 1, HLT.out, by go_num, ?_, ?_⟩
        · rw [upL_snoc, List.map_append]; exact hown1
        · exact (hb.alloc hbs _).grown hg1 (by simp; omega) (fun j hj => (hown.lt j hj).1)
      case measure => have := HLT.out; simp [intOf]; omega
    · obtain rfl : N = k := by omega
      obtain ⟨A1, c1, rfl, hf⟩ := intF_own hown (upL_len _) (by omega) (upL_int hE)
      have S1 := hidden (ofF A1 N c1 (upL N) wr hf)
      have HB := hidden hb
      clear hf hb hown
      go_wp2_with fail
      refine S1.out.mono ?_
      rintro e w2 ⟨a, S, F, rfl, ⟨h1, h2, h3⟩, h4, h5⟩
      have HF := hidden (show FCR w (fun S => S = upL N) (.returned (.pointer a)) w2 from ⟨a, S, F, rfl, ⟨h1, fun k hk => by have := h2 k hk; have := HB.out.size; omega, HB.out.trans (h3.mono HB.out.size)⟩, rising_ext ((isCur_rise _ _ _ _ h1).1) (upL_rising N) h4⟩)
      clear h1 h2 h3 h4 h5 S1
      go_wp2_with fail
      go_ret
      exact HF.out
end Go.Proofs.YthncochjhbmceaaGreat

namespace Go.Proofs.YthncochjhbmceaaGreat
set_option maxRecDepth 100000
open Go.RowKit Go.Shelf

theorem eql_mp (a : Addr) (w : World) : (binOp .eql 159 (.pointer none) (.pointer (some a))).run Tryz.prog w = .ok (.bool false) w := by
  have h : ∀ d : Nat, (Op.equalIn (d + 1) 159 (.pointer none) (.pointer (some a))).run Tryz.prog w = .ok false w := fun d => by
    simp [Op.equalIn, run_underlying Tryz.underlying159]
  simp only [binOp]
  simp [Op.equal, Op.maxDepth, h 9999]
def ptrV (a : Addr) : Value := .pointer (some a)
set_option maxHeartbeats 800000 in
theorem midx_none (A : Option Addr) (n c : Nat) (ps : List Addr) (w : World) (hr : Row w w.heap.size 1 A n (ps.map ptrV)) (hl : ps.length = n) (hn : n ≤ 1099511627776) :
    Calls Tryz.prog 122 #[.slice A n c, .pointer none] w fun e w' => e = .returned (.int .i64 (-1)) ∧ w' = w := by
  have HR := hidden hr
  clear hr
  go_enter Tryz.func122, Tryz.ntmps122
  go_wp2_with fail
  go_loopw [8] (fun vi wr => ∃ k : Nat, vi = .int .i64 (k : Int) ∧ k ≤ n ∧ wr = w) (fun vi _ => n - (intOf vi).toNat)
  case atStart => exact ⟨0, rfl, Nat.zero_le _, rfl⟩
  case round =>
    obtain ⟨k, rfl, hk, rfl⟩ := hrel
    by_cases hlt : k < n
    · have k1 : (k : Int) < (n : Int) := by omega
      have k0 : (0 : Int) ≤ (k : Int) := by omega
      have fwk : IntKind.i64.wrap ((k : Int) + 1) = (k : Int) + 1 := Go.IntWalk.i64_in _ (by omega)
      obtain ⟨g, o, rfl, hg, hc⟩ := HR.out.at_ (by omega)
      obtain ⟨a, ha⟩ : ∃ a, ps[k]? = some a := ⟨_, List.getElem?_eq_getElem (by omega)⟩
      have ck : wr.cell? ⟨g, o + k, none⟩ = some (.pointer (some a)) := by rw [hc k (by omega), List.getElem?_map, ha]; rfl
      have HLT := hidden (show k + 1 ≤ n from hlt)
      have hno : ∀ w, (binOp .eql 159 (.pointer none) (.pointer (some a))).run Tryz.prog w = .ok (.bool false) w := eql_mp a
      clear hc ha
      go_wp2_with fail
      go_roundw
      case rel => exact ⟨k + 1, by go_num, HLT.out, trivial⟩
      case measure => have := HLT.out; simp [intOf]; omega
    · obtain rfl : k = n := by omega
      go_wp2_with fail
      go_ret
      exact ⟨rfl, rfl⟩
theorem mcon_none (A : Option Addr) (n c : Nat) (ps : List Addr) (w : World) (hr : Row w w.heap.size 1 A n (ps.map ptrV)) (hl : ps.length = n) (hn : n ≤ 1099511627776) :
    Calls Tryz.prog 78 #[.slice A n c, .pointer none] w fun e w' => e = .returned (.bool false) ∧ w' = w := by
  have S1 := hidden (midx_none A n c ps w hr hl hn)
  clear hr
  go_enter Tryz.func78, Tryz.ntmps78
  go_wp2_with fail
  refine S1.out.mono ?_
  rintro e w1 ⟨rfl, rfl⟩
  go_wp2_with fail
  go_ret
  exact ⟨rfl, rfl⟩
set_option maxHeartbeats 1600000 in
theorem idx_sel0 (w : World) {base p : Nat} {E : List (List Lbl)} (h : Idx w base p E) (hE : E.length ≤ 1048576) :
    Calls Tryz.prog 44 #[.pointer (some ⟨p, 0, none⟩), .slice none 0 0] w fun e w' => ∃ A c, e = .returned (.slice A E.length c) ∧ IntF w' A E.length (upL E.length) ∧ Below w.heap.size w w' := by
  have S0 := hidden (mcon_none none 0 0 [] w Row.nil rfl (by omega))
  have S1 := hidden (idx_all w h hE)
  clear h
  go_enter Tryz.func44, Tryz.ntmps44
  go_wp2_with fail
  refine S0.out.mono ?_
  rintro e w1 ⟨rfl, rfl⟩
  clear S0
  go_wp2_with fail
  refine S1.out.mono ?_
  rintro e w2 ⟨a, S, F, rfl, hF, rfl⟩
  have HF := hidden hF
  have HKR : KidRow (w2.alloc (.cells #[.pointer a] 208)) (some ⟨w2.heap.size, 0, none⟩) 1 [⟨.pointer a, upL E.length, F⟩] :=
    ⟨(Row.fresh w2 208 1 1 [.pointer a] rfl).more (by simp), rfl, by decide, by simp only [List.mem_cons, List.not_mem_nil, or_false, forall_eq]; exact isCur_on hF.1 ((Below.refl _ _).alloc (Nat.le_refl _) _), by simp⟩
  have HA := hidden (and_any _ 1 1 _ _ HKR)
  have B3 := hidden (show Below w1.heap.size w1 (w2.alloc (.cells #[.pointer a] 208)) from hF.2.2.trans (((Below.refl w2.heap.size w2).alloc (Nat.le_refl _) _).mono hF.2.2.size))
  have hF2 := hidden hF.2.1
  clear hF S1 HKR
  go_wp2_with fail
  generalize w2.alloc (.cells #[.pointer a] 208) = w3 at *
  obtain ⟨X, hX⟩ : ∃ X, w2.heap.size = X := ⟨_, rfl⟩
  rw [hX] at HA ⊢
  clear hX
  go_loopw [5, 19] (fun vp vi wr => vp = .slice (some ⟨X, 0, none⟩) 1 1 ∧ vi = .int .i64 0 ∧ w3 = wr) (fun _ _ _ => 0)
  case atStart => exact ⟨rfl, rfl, rfl⟩
  case round =>
    obtain ⟨rfl, rfl, rfl⟩ := hrel
    go_wp2_with fail
    refine HA.out.mono ?_
    intro e w4 hN
    obtain ⟨a4, S4, F4, rfl, hF4, hS4⟩ := fcr_new (ws := w1) hN (fun k ⟨x, hx, hk⟩ => by simp only [List.mem_cons, List.not_mem_nil, or_false] at hx; subst hx; exact hF2.out k hk) B3.out
    obtain rfl : S4 = upL E.length := rising_ext ((isCur_rise _ _ _ _ hF4.1).1) (upL_rising _) fun x => by rw [hS4 x]; simp
    have SR := hidden (restF hF4 (by rw [upL_len]; omega))
    rw [upL_len] at SR
    clear hF4 hS4 HA hN
    go_wp2_with fail
    refine SR.out.mono ?_
    rintro e w5 ⟨A5, c5, rfl, hf5, hb5⟩
    have HF5 := hidden hf5
    have HB5 := hidden hb5
    clear hf5 hb5 SR
    go_wp2_with fail
    go_ret
    exact ⟨A5, c5, rfl, HF5.out, HB5.out⟩
end Go.Proofs.YthncochjhbmceaaGreat

namespace Go.Proofs.YthncochjhbmceaaGreat
set_option maxRecDepth 100000
open Go.RowKit

structure Spn where
  frm : Int
  til : Int
instance : Inhabited Spn := ⟨⟨0, 0⟩⟩
def Spn.cells (x : Spn) : List Value := [.int .i64 x.frm, .int .i64 x.til]
def spnCells (l : List Spn) : List Value := l.flatMap Spn.cells
def Spn.ok (x : Spn) : Prop := -9223372036854775808 ≤ x.frm ∧ x.frm < 9223372036854775808 ∧ -9223372036854775808 ≤ x.til ∧ x.til < 9223372036854775808
/-- times taken away from a series -/
structure Gon where
  lab : Sl Lbl
  s0 : Sl Spn
  s1 : Sl Spn
  s2 : Sl Spn
instance : Inhabited Gon := ⟨⟨Sl.nil, Sl.nil, Sl.nil, Sl.nil⟩⟩
def Gon.cells (x : Gon) : List Value := [x.lab.val, x.s0.val, x.s1.val, x.s2.val]
def gonCells (l : List Gon) : List Value := l.flatMap Gon.cells
structure Gon.At (w : World) (B : Nat) (x : Gon) : Prop where
  lab : x.lab.At w B 2 Lbl.cells
  s0 : x.s0.At w B 2 Spn.cells
  s1 : x.s1.At w B 2 Spn.cells
  s2 : x.s2.At w B 2 Spn.cells
theorem Gon.At.below {w w' : World} {B : Nat} {x : Gon} (h : x.At w B) (hb : Below B w w') : x.At w' B := ⟨h.lab.below hb, h.s0.below hb, h.s1.below hb, h.s2.below hb⟩
theorem Gon.At.more {w : World} {B B' : Nat} {x : Gon} (h : x.At w B) (hB : B ≤ B') : x.At w B' := ⟨h.lab.more hB, h.s0.more hB, h.s1.more hB, h.s2.more hB⟩
/-- the spans of one resolution -/
def Gon.sp (x : Gon) (r : Int) : Sl Spn := if r = 0 then x.s0 else if r = 1 then x.s1 else x.s2
/-- does the time lie in one of them? -/
def inSpn (s : Spn) (t : Int) : Bool := decide (s.frm ≤ t) && decide (t ≤ s.til)
def hasP (l : List Spn) (t : Int) : Bool := l.any fun s => inSpn s t
end Go.Proofs.YthncochjhbmceaaGreat

namespace Go.Proofs.YthncochjhbmceaaGreat
set_option maxRecDepth 100000

theorem inSpn_iff {s : Spn} {t : Int} : inSpn s t = true ↔ s.frm ≤ t ∧ t ≤ s.til := by simp [inSpn]
theorem hasP_iff {l : List Spn} {t : Int} : hasP l t = true ↔ ∃ s ∈ l, s.frm ≤ t ∧ t ≤ s.til := by simp [hasP, inSpn_iff]
theorem hasP_app (a b : List Spn) (t : Int) : hasP (a ++ b) t = (hasP a t || hasP b t) := by simp [hasP]
theorem hasP_cons (a : Spn) (b : List Spn) (t : Int) : hasP (a :: b) t = (inSpn a t || hasP b t) := by simp [hasP]
theorem hasP_nil (t : Int) : hasP [] t = false := rfl
/-- the one list: each span full, gaps between -/
structure OneS (l : List Spn) : Prop where
  full : ∀ s ∈ l, s.frm ≤ s.til
  gap : l.Pairwise fun a b => a.til + 1 < b.frm
theorem OneS.nil : OneS [] := ⟨by simp, List.Pairwise.nil⟩
theorem oneS_cons {s : Spn} {l : List Spn} (h : OneS (s :: l)) : s.frm ≤ s.til ∧ OneS l ∧ ∀ x ∈ l, s.til + 1 < x.frm := by
  have h2 := List.pairwise_cons.1 h.gap
  exact ⟨h.full s (List.mem_cons_self ..), ⟨fun x hx => h.full x (List.mem_cons_of_mem _ hx), h2.2⟩, h2.1⟩
theorem oneS_not {l : List Spn} {b t : Int} (h : ∀ x ∈ l, b < x.frm) (ht : t ≤ b) : hasP l t = false := by
  cases hh : hasP l t with
  | false => rfl
  | true =>
    obtain ⟨s, hs, h1, _⟩ := hasP_iff.1 hh
    have := h s hs
    omega
/-- two such lists of the same times are the same -/
theorem oneS_unique : ∀ {a b : List Spn}, OneS a → OneS b → (∀ t, hasP a t = hasP b t) → a = b
  | [], [], _, _, _ => rfl
  | [], y :: b, _, hb, h => by
    have := h y.frm
    have hy := (oneS_cons hb).1
    rw [hasP_cons, inSpn_iff.2 ⟨by omega, hy⟩] at this
    cases this
  | x :: a, [], ha, _, h => by
    have := h x.frm
    have hx := (oneS_cons ha).1
    rw [hasP_cons, inSpn_iff.2 ⟨by omega, hx⟩] at this
    cases this
  | x :: a, y :: b, ha, hb, h => by
    obtain ⟨x1, x2, x3⟩ := oneS_cons ha
    obtain ⟨y1, y2, y3⟩ := oneS_cons hb
    have key : ∀ {x y : Spn} {a b : List Spn}, x.frm ≤ x.til → (∀ z ∈ a, x.til + 1 < z.frm) → y.frm ≤ y.til → (∀ z ∈ b, y.til + 1 < z.frm) → (∀ t, hasP (x :: a) t = hasP (y :: b) t) → y.frm ≤ x.frm := by
      intro x y a b x1 x3 y1 y3 h
      have h1 := h x.frm
      rw [hasP_cons, inSpn_iff.2 ⟨by omega, x1⟩, Bool.true_or] at h1
      obtain ⟨s, hs, h2, _⟩ := hasP_iff.1 h1.symm
      rcases List.mem_cons.1 hs with rfl | hs
      · exact h2
      · have := y3 s hs; omega
    have e1 : x.frm = y.frm := by
      have := key x1 x3 y1 y3 h
      have := key y1 y3 x1 x3 (fun t => (h t).symm)
      omega
    have key2 : ∀ {x y : Spn} {a b : List Spn}, x.frm = y.frm → x.frm ≤ x.til → (∀ z ∈ a, x.til + 1 < z.frm) → y.frm ≤ y.til → (∀ z ∈ b, y.til + 1 < z.frm) → (∀ t, hasP (x :: a) t = hasP (y :: b) t) → x.til ≤ y.til := by
      intro x y a b e x1 x3 y1 y3 h
      rcases Int.lt_or_le y.til x.til with hl | hl
      · have h1 := h (y.til + 1)
        rw [hasP_cons, inSpn_iff.2 ⟨by omega, by omega⟩, Bool.true_or] at h1
        obtain ⟨s, hs, h2, h3⟩ := hasP_iff.1 h1.symm
        rcases List.mem_cons.1 hs with rfl | hs
        · omega
        · have := y3 s hs; omega
      · exact hl
    have e2 : x.til = y.til := by
      have := key2 e1 x1 x3 y1 y3 h
      have := key2 e1.symm y1 y3 x1 x3 (fun t => (h t).symm)
      omega
    have e : x = y := by
      obtain ⟨p, q⟩ := x
      obtain ⟨r, s⟩ := y
      simp only at e1 e2
      rw [e1, e2]
    subst e
    rw [oneS_unique x2 y2 fun t => ?_]
    have h1 := h t
    rw [hasP_cons, hasP_cons] at h1
    rcases Int.lt_or_le x.til t with hl | hl
    · have : inSpn x t = false := by
        cases hh : inSpn x t with
        | false => rfl
        | true => have := (inSpn_iff.1 hh).2; omega
      rw [this] at h1
      simpa using h1
    · rw [oneS_not (fun z hz => by have := x3 z hz; omega : ∀ z ∈ a, x.til < z.frm) hl, oneS_not (fun z hz => by have := y3 z hz; omega : ∀ z ∈ b, x.til < z.frm) hl]

/-- a span more, begun no earlier than all that there are -/
def joinStep (out : List Spn) (s : Spn) : List Spn :=
  match out.getLast? with
  | none => [s]
  | some z => if z.til < s.frm ∧ z.til < s.frm - 1 then out ++ [s] else out.dropLast ++ [⟨z.frm, if z.til < s.til then s.til else z.til⟩]
theorem joinStep_nil (s : Spn) : joinStep [] s = [s] := rfl
theorem joinStep_snoc (m : List Spn) (z s : Spn) : joinStep (m ++ [z]) s = if z.til < s.frm ∧ z.til < s.frm - 1 then m ++ [z] ++ [s] else m ++ [⟨z.frm, if z.til < s.til then s.til else z.til⟩] := by
  unfold joinStep
  rw [List.getLast?_concat]
  simp only [List.dropLast_concat]
def joinAll (l : List Spn) : List Spn := l.foldl joinStep []
theorem joinAll_snoc (l : List Spn) (s : Spn) : joinAll (l ++ [s]) = joinStep (joinAll l) s := by simp [joinAll]
/-- what joining keeps: all spans begun by b -/
structure JoinI (l out : List Spn) : Prop where
  one : OneS out
  has : ∀ t, hasP out t = hasP l t
  from_ : ∀ z ∈ out, ∃ s ∈ l, s.frm = z.frm
  to_ : ∀ z ∈ out, ∃ s ∈ l, s.til = z.til
  len : out.length ≤ l.length
theorem joinI_step {l out : List Spn} {s : Spn} (h : JoinI l out) (hs : s.frm ≤ s.til) (hle : ∀ x ∈ l, x.frm ≤ s.frm) : JoinI (l ++ [s]) (joinStep out s) := by
  obtain ⟨ho, hh, hf, ht, hl⟩ := h
  rcases List.eq_nil_or_concat out with rfl | ⟨m, z, rfl⟩
  · rw [joinStep_nil]
    refine ⟨⟨by simpa using hs, List.pairwise_singleton _ _⟩, fun t => ?_, fun z hz => ⟨s, by simp, by rw [List.mem_singleton.1 hz]⟩, fun z hz => ⟨s, by simp, by rw [List.mem_singleton.1 hz]⟩, by simp⟩
    rw [hasP_app, ← hh t, hasP_nil, Bool.false_or]
  · rw [List.concat_eq_append] at *
    rw [joinStep_snoc]
    have hg := List.pairwise_append.1 ho.gap
    have hzf := ho.full z (by simp)
    obtain ⟨q, hq, hqz⟩ := hf z (by simp)
    have hzs := hle q hq
    have hz2 : ∀ x ∈ m, x.til + 1 < z.frm := fun x hx => hg.2.2 x hx z (by simp)
    by_cases hc : z.til < s.frm ∧ z.til < s.frm - 1
    · rw [if_pos hc]
      refine ⟨⟨fun x hx => ?_, ?_⟩, fun t => ?_, fun x hx => ?_, fun x hx => ?_, by simp at hl ⊢; omega⟩
      · rcases List.mem_append.1 hx with hx | hx
        · exact ho.full x hx
        · rw [List.mem_singleton.1 hx]; exact hs
      · rw [List.pairwise_append]
        refine ⟨ho.gap, List.pairwise_singleton _ _, fun x hx y hy => ?_⟩
        rw [List.mem_singleton.1 hy]
        rcases List.mem_append.1 hx with hx | hx
        · have := hz2 x hx; omega
        · rw [List.mem_singleton.1 hx]; omega
      · rw [hasP_app, hh t, hasP_app]
      · rcases List.mem_append.1 hx with hx | hx
        · obtain ⟨s', hs', e⟩ := hf x hx
          exact ⟨s', List.mem_append_left _ hs', e⟩
        · exact ⟨s, by simp, by rw [List.mem_singleton.1 hx]⟩
      · rcases List.mem_append.1 hx with hx | hx
        · obtain ⟨s', hs', e⟩ := ht x hx
          exact ⟨s', List.mem_append_left _ hs', e⟩
        · exact ⟨s, by simp, by rw [List.mem_singleton.1 hx]⟩
    · rw [if_neg hc]
      have hmx : (if z.til < s.til then s.til else z.til) = max z.til s.til := by split <;> omega
      rw [hmx]
      refine ⟨⟨fun x hx => ?_, ?_⟩, fun t => ?_, fun x hx => ?_, fun x hx => ?_, by simp at hl ⊢; omega⟩
      · rcases List.mem_append.1 hx with hx | hx
        · exact ho.full x (List.mem_append_left _ hx)
        · rw [List.mem_singleton.1 hx]; show z.frm ≤ max z.til s.til; omega
      · rw [List.pairwise_append]
        refine ⟨hg.1, List.pairwise_singleton _ _, fun x hx y hy => ?_⟩
        rw [List.mem_singleton.1 hy]
        exact hz2 x hx
      · rw [hasP_app, hasP_app, ← hh t, hasP_app, Bool.or_assoc]
        congr 1
        rw [Bool.eq_iff_iff, hasP_cons, hasP_cons, hasP_cons, hasP_nil, Bool.or_false, Bool.or_false, Bool.or_false, Bool.or_eq_true, inSpn_iff, inSpn_iff, inSpn_iff]
        simp only
        omega
      · rcases List.mem_append.1 hx with hx | hx
        · obtain ⟨s', hs', e⟩ := hf x (List.mem_append_left _ hx)
          exact ⟨s', List.mem_append_left _ hs', e⟩
        · rw [List.mem_singleton.1 hx]
          exact ⟨q, List.mem_append_left _ hq, hqz⟩
      · rcases List.mem_append.1 hx with hx | hx
        · obtain ⟨s', hs', e⟩ := ht x (List.mem_append_left _ hx)
          exact ⟨s', List.mem_append_left _ hs', e⟩
        · rw [List.mem_singleton.1 hx]
          show ∃ s_1 ∈ l ++ [s], s_1.til = max z.til s.til
          obtain ⟨q2, hq2, e2⟩ := ht z (by simp)
          rcases Int.lt_or_le z.til s.til with hz3 | hz3
          · exact ⟨s, by simp, by omega⟩
          · exact ⟨q2, List.mem_append_left _ hq2, by omega⟩
/-- sorted, full spans joined: the one list of their times -/
theorem joinI_all : ∀ {l : List Spn}, (∀ s ∈ l, s.frm ≤ s.til) → (l.Pairwise fun a b => a.frm ≤ b.frm) → JoinI l (joinAll l) := by
  intro l
  generalize hn : l.length = n
  induction n generalizing l with
  | zero =>
    intro _ _
    obtain rfl := List.eq_nil_of_length_eq_zero hn
    exact ⟨OneS.nil, fun _ => rfl, by simp [joinAll], by simp [joinAll], by simp [joinAll]⟩
  | succ n ih =>
    intro h1 h2
    rcases List.eq_nil_or_concat l with rfl | ⟨m, s, rfl⟩
    · simp at hn
    · rw [List.concat_eq_append] at *
      rw [joinAll_snoc]
      have hp := List.pairwise_append.1 h2
      exact joinI_step (ih (by simpa using hn) (fun s hs => h1 s (List.mem_append_left _ hs)) hp.1) (h1 s (by simp)) fun x hx => hp.2.2 x hx s (by simp)
/-- what spans.Of answers -/
structure OfRes (l out : List Spn) : Prop where
  one : OneS out
  has : ∀ t, hasP out t = hasP l t
  ends : ∀ z ∈ out, (∃ s ∈ l, s.frm = z.frm) ∧ ∃ s ∈ l, s.til = z.til
theorem OfRes.uniq {l l' a b : List Spn} (h : OfRes l a) (k : OfRes l' b) (e : ∀ t, hasP l t = hasP l' t) : a = b := oneS_unique h.one k.one fun t => by rw [h.has, k.has, e]
def fullS (l : List Spn) : List Spn := l.filter fun s => !decide (s.til < s.frm)
theorem hasP_full (l : List Spn) (t : Int) : hasP (fullS l) t = hasP l t := by
  rw [Bool.eq_iff_iff, hasP_iff, hasP_iff]
  constructor
  · rintro ⟨s, hs, h⟩
    exact ⟨s, (List.mem_filter.1 hs).1, h⟩
  · rintro ⟨s, hs, h⟩
    exact ⟨s, List.mem_filter.2 ⟨hs, by simp; omega⟩, h⟩
theorem fullS_full (l : List Spn) : ∀ s ∈ fullS l, s.frm ≤ s.til := fun s hs => by
  have := (List.mem_filter.1 hs).2
  simp at this; omega
theorem hasP_perm {a b : List Spn} (h : a.Perm b) (t : Int) : hasP a t = hasP b t := by
  rw [Bool.eq_iff_iff, hasP_iff, hasP_iff]
  exact ⟨fun ⟨s, hs, k⟩ => ⟨s, h.mem_iff.1 hs, k⟩, fun ⟨s, hs, k⟩ => ⟨s, h.mem_iff.2 hs, k⟩⟩
theorem ofRes_join {l S : List Spn} (hp : S.Perm (fullS l)) (hs : S.Pairwise fun a b => a.frm ≤ b.frm) : OfRes l (joinAll S) := by
  have h := joinI_all (fun s hm => fullS_full l s (hp.mem_iff.1 hm)) hs
  refine ⟨h.one, fun t => by rw [h.has, hasP_perm hp, hasP_full], fun z hz => ⟨?_, ?_⟩⟩
  · obtain ⟨s, hs, e⟩ := h.from_ z hz
    exact ⟨s, (List.mem_filter.1 (hp.mem_iff.1 hs)).1, e⟩
  · obtain ⟨s, hs, e⟩ := h.to_ z hz
    exact ⟨s, (List.mem_filter.1 (hp.mem_iff.1 hs)).1, e⟩
theorem OfRes.self {l : List Spn} (h : OneS l) : OfRes l l := ⟨h, fun _ => rfl, fun z hz => ⟨⟨z, hz, rfl⟩, z, hz, rfl⟩⟩
theorem OfRes.ok {l out : List Spn} (h : OfRes l out) (k : ∀ x ∈ l, x.ok) : ∀ x ∈ out, x.ok := fun x hx => by
  obtain ⟨⟨a, ha, e1⟩, b, hb, e2⟩ := h.ends x hx
  have h1 := k a ha
  have h2 := k b hb
  unfold Spn.ok at *
  omega

/-! clipped -/
def clip1S (a b : Int) (s : Spn) : Spn := ⟨if s.frm < a then a else s.frm, if b < s.til then b else s.til⟩
theorem clip1_in (a b : Int) (s : Spn) (t : Int) : inSpn (clip1S a b s) t = (inSpn s t && inSpn ⟨a, b⟩ t) := by
  rw [Bool.eq_iff_iff, Bool.and_eq_true, inSpn_iff, inSpn_iff, inSpn_iff]
  unfold clip1S
  simp only
  constructor
  · rintro ⟨h1, h2⟩
    split at h1 <;> split at h2 <;> omega
  · rintro ⟨⟨h1, h2⟩, h3, h4⟩
    constructor <;> split <;> omega
theorem clip_has (a b : Int) (l : List Spn) (t : Int) : hasP (l.map (clip1S a b)) t = (hasP l t && inSpn ⟨a, b⟩ t) := by
  induction l with
  | nil => rfl
  | cons x l ih => rw [List.map_cons, hasP_cons, hasP_cons, ih, clip1_in, Bool.and_or_distrib_right]
def clipS (a b : Int) (l : List Spn) : List Spn := fullS (l.map (clip1S a b))
theorem clipS_one {l : List Spn} (h : OneS l) (a b : Int) : OneS (clipS a b l) := by
  refine ⟨fullS_full _, ?_⟩
  have : (l.map (clip1S a b)).Pairwise fun x y => x.til + 1 < y.frm := by
    rw [List.pairwise_map]
    refine h.gap.imp fun {x y} hxy => ?_
    unfold clip1S
    simp only
    split <;> split <;> omega
  exact this.sublist List.filter_sublist
theorem clipS_has (a b : Int) (l : List Spn) (t : Int) : hasP (clipS a b l) t = (hasP l t && inSpn ⟨a, b⟩ t) := by rw [clipS, hasP_full, clip_has]
theorem clipS_of {l out : List Spn} {a b : Int} (h : OneS l) (ho : OfRes (l.map (clip1S a b)) out) : out = clipS a b l :=
  ho.uniq (OfRes.self (clipS_one h a b)) fun t => by rw [clip_has, clipS_has]
/-- times that all lie in the list lie in one of its spans -/
theorem oneS_covers {l : List Spn} (h : OneS l) {a b : Int} (hab : a ≤ b) (hall : ∀ t, a ≤ t → t ≤ b → hasP l t = true) : ∃ x ∈ l, x.frm ≤ a ∧ b ≤ x.til := by
  obtain ⟨x, hx, h1, h2⟩ := hasP_iff.1 (hall a (Int.le_refl _) hab)
  refine ⟨x, hx, h1, ?_⟩
  rcases Int.lt_or_le x.til b with hl | hl
  · obtain ⟨y, hy, h3, h4⟩ := hasP_iff.1 (hall (x.til + 1) (by omega) (by omega))
    obtain ⟨i, hi, rfl⟩ := List.getElem_of_mem hx
    obtain ⟨j, hj, rfl⟩ := List.getElem_of_mem hy
    have hp := List.pairwise_iff_getElem.1 h.gap
    rcases Nat.lt_trichotomy i j with hij | hij | hij
    · have := hp i j hi hj hij; omega
    · subst hij; omega
    · have := hp j i hj hi hij
      have := h.full l[j] hy
      omega
  · exact hl
def coversP (l : List Spn) (a b : Int) : Bool := l.any fun s => decide (s.frm ≤ a) && decide (b ≤ s.til)
end Go.Proofs.YthncochjhbmceaaGreat

namespace Go.Proofs.YthncochjhbmceaaGreat.ClnSpn
set_option maxRecDepth 100000
open Go.RowKit

theorem info : (Tryz.prog.info? 33).map (fun i => (i.zero, i.size, i.bytes)) = some (some (.agg #[.int .i64 0, .int .i64 0]), 2, 16) := by kernel_rfl
theorem cells_one (l : List Spn) : ∀ u ∈ l.flatMap Spn.cells, u.oneCell' = true := by
  intro u hu
  simp only [Spn.cells, List.mem_flatMap, List.mem_cons, List.not_mem_nil, or_false] at hu
  obtain ⟨s, _, rfl | rfl⟩ := hu <;> rfl

set_option maxHeartbeats 1600000 in
theorem cloneO_any (A : Option Addr) (n c : Nat) (l : List Spn) (w : World) (hr : Row w w.heap.size 2 A n (l.flatMap Spn.cells)) (hl : l.length = n) (hn : n * 16 ≤ 140737488351232) :
    Calls Tryz.prog 35 #[.slice A n c] w fun e w' => ∃ s : Sl Spn, e = .returned s.val ∧ s.l = l ∧ s.n = n ∧ s.At w' w'.heap.size 2 Spn.cells ∧ (∀ j, j < w.heap.size → s.Off (some j)) ∧ Below w.heap.size w w' ∧ (0 < n → w'.ownsRow w.heap.size 33 2 s.val n (l.flatMap Spn.cells)) := by
  obtain ⟨i0, hi, hz0, hz1, hz2⟩ := info_parts info
  have hL := hidden hl
  clear hl
  cases A with
  | none =>
    have hn0 : n = 0 := by
      rcases Nat.eq_zero_or_pos n with h | h
      · exact h
      · obtain ⟨_, _, h', _⟩ := hr.at_ h
        cases h'
    subst hn0
    have h1 := fun w : World => Lib.run_eql_slice_nil (P := Tryz.prog) w 59 33 none 0 c 0 0 Tryz.underlying59
    go_enter Tryz.func35, Tryz.ntmps35
    go_wp2
    go_ret
    exact ⟨⟨none, 0, 0, l⟩, rfl, rfl, rfl, ⟨Nat.le_refl _, hL.out, hr⟩, fun j _ hn => by simp at hn, Below.refl _ _, fun h => absurd h (by omega)⟩
  | some a =>
    have h1 := fun w : World => Lib.run_eql_slice_nil (P := Tryz.prog) w 59 33 (some a) n c 0 0 Tryz.underlying59
    go_enter Tryz.func35, Tryz.ntmps35
    go_wp2_with (at_builtin; refine wpList_clone _ rfl _ _ 59 rfl 33 i0 _ 2 16 Tryz.underlying59 hi hz0 hz1 hz2 rfl (by decide) _ rfl w.heap.size _ _ _ _ rfl (hr.alloc (Nat.le_refl _) _) (cells_one l) (by unfold maxLen; omega) (by omega) ?_; intro v1 w1 hg1 hown1)
    go_ret
    have hb1 : Below w.heap.size w w1 := ((Below.refl _ _).alloc (Nat.le_refl _) _).grown hg1 (by simp) (fun j hj => by cases hj)
    rcases hown1 with ⟨rfl, rfl⟩ | hown1
    · have hl0 : l = [] := List.eq_nil_of_length_eq_zero hL.out
      subst hl0
      exact ⟨⟨_, 0, 0, []⟩, rfl, rfl, rfl, ⟨Nat.le_refl _, rfl, ⟨rfl, fun h => absurd h (by simp)⟩⟩, fun j _ hn => by simp at hn, hb1, fun h => absurd h (by omega)⟩
    · obtain ⟨A1, c1, rfl, hc1, hr1⟩ := own_shape hown1
      exact ⟨⟨A1, n, c1, l⟩, rfl, rfl, rfl, ⟨hc1, hL.out, hr1⟩, fun j hj => Sl.off_own hown1 (by simp; omega), hb1, fun _ => ⟨hown1.1, hown1.2.imp id fun ⟨g, cap, cur, h1, h2, h3⟩ => ⟨g, cap, cur, h1, by simp at h2; omega, h3⟩⟩⟩
theorem clone_any (A : Option Addr) (n c : Nat) (l : List Spn) (w : World) (hr : Row w w.heap.size 2 A n (l.flatMap Spn.cells)) (hl : l.length = n) (hn : n * 16 ≤ 140737488351232) :
    Calls Tryz.prog 35 #[.slice A n c] w fun e w' => ∃ s : Sl Spn, e = .returned s.val ∧ s.l = l ∧ s.n = n ∧ s.At w' w'.heap.size 2 Spn.cells ∧ (∀ j, j < w.heap.size → s.Off (some j)) ∧ Below w.heap.size w w' := by
  refine (cloneO_any A n c l w hr hl hn).mono ?_
  rintro e w' ⟨s, h1, h2, h3, h4, h5, h6, _⟩
  exact ⟨s, h1, h2, h3, h4, h5, h6⟩
end Go.Proofs.YthncochjhbmceaaGreat.ClnSpn
