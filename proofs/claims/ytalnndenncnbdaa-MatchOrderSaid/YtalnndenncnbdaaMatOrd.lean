/- MatchOrder: it makes no difference in which order matchers stand, or how often. No condition. -/
import Derived.Test.YtalnndenncnbdaaWak08
import Derived.Test.YtalnndenncnbdaaMatA
import Derived.Test.YtalnndenncnbdaaOpenT
import Derived.Test.YtalnndenncnbdaaLabOp
namespace Go.Proofs.Ytalnndenncnbdaa
set_option maxRecDepth 100000
open Go.RowKit Go.WideShapes Go.ChangeShapes

/-- a matcher's parts, as they lie -/
structure Ask where
  kind : Int
  name : ByteArray
  value : ByteArray
def Ask.cells (x : Ask) : List Value := [.int .i64 x.kind, .string x.name, .string x.value]
structure AskF (w : World) (A : Option Addr) (n : Nat) (l : List Ask) : Prop where
  row : Row w w.heap.size 3 A n (l.flatMap Ask.cells)
  len : l.length = n
  few : n ≤ 3518437208883
  sz : ∀ x ∈ l, x.name.size ≤ 140737488355328 ∧ x.value.size ≤ 140737488355328
theorem AskF.on {w w' : World} {A : Option Addr} {n : Nat} {l : List Ask} (h : AskF w A n l) (hb : Below w.heap.size w w') : AskF w' A n l := ⟨(h.row.below hb).more hb.size, h.len, h.few, h.sz⟩
theorem ask_cells {w : World} {A : Option Addr} {n : Nat} {l : List Ask} (h : AskF w A n l) {k : Nat} (hk : k < n) : ∃ g o x, A = some ⟨g, o, none⟩ ∧ g < w.heap.size ∧ l[k]? = some x ∧ w.cell? ⟨g, o + k * 3, none⟩ = some (.int .i64 x.kind) ∧ w.cell? ⟨g, o + k * 3 + 1, none⟩ = some (.string x.name) ∧ w.cell? ⟨g, o + k * 3 + 2, none⟩ = some (.string x.value) ∧ x ∈ l := by
  obtain ⟨g, o, x, hA, hg, hx, hc⟩ := row_at (enc := Ask.cells) (k := 3) (fun _ => rfl) h.row h.len k hk
  exact ⟨g, o, x, hA, hg, hx, hc 0 (by omega), hc 1 (by omega), hc 2 (by omega), List.mem_of_getElem? hx⟩
/-- those that are matchers: what they fit -/
def goodF (l : List Ask) : List (ByteArray × (ByteArray → Bool)) := l.filterMap fun x => match newF x.kind x.name x.value with
  | .ok F => some (x.name, F)
  | .error _ => none
def Mt.fit (x : Mt) : ByteArray × (ByteArray → Bool) := (x.name, x.F)
theorem allM_fit (l : List Lbl) (ms : List Mt) : allM l ms = (ms.map Mt.fit).all fun p => p.2 (getL l p.1) := by
  rw [allM, List.all_map]
  rfl
theorem infoM : (Try.prog.info? 25).map (fun i => (i.zero, i.size, i.bytes)) = some (some (.pointer none), 1, 8) := by kernel_rfl
/-- a row of matchers of the call's own -/
def OwnM (w : World) (B : Nat) (v : Value) (ms : List Mt) : Prop := w.ownsRow B 25 1 v ms.length (ms.map Mt.ptr) ∧ ∀ x ∈ ms, MatAt w x.M x.kind x.name x.value x.F
theorem OwnM.on {w w' : World} {B : Nat} {v : Value} {ms : List Mt} (h : OwnM w B v ms) (hb : Below w.heap.size w w') : OwnM w' B v ms := ⟨own_below h.1 hb (Nat.le_refl _), fun x hx => (h.2 x hx).on hb⟩
theorem OwnM.row {w : World} {B : Nat} {v : Value} {ms : List Mt} (h : OwnM w B v ms) : ∃ A c, v = .slice A ms.length c ∧ ms.length ≤ c ∧ MtRow w A ms.length ms := by
  obtain ⟨A, c, rfl, hc, hr⟩ := own_shape h.1
  exact ⟨A, c, rfl, hc, hr, rfl, h.2⟩

/-- what a growing row of pointers leaves as it is -/
theorem others_on {w w' : World} {B n : Nat} {v : Value} {xs : List Value} (ho : w.ownsRow B 25 1 v n xs) (hg : w.grownBy w' v.ownBlock) : ∀ g t cs, t ≠ 25 → Whole1 w g t cs → Whole1 w' g t cs := fun g t cs ht hw => by
  refine (hg.block g hw.lt fun e => ?_).trans hw
  rcases ho.2 with ⟨h1, _⟩ | ⟨k, cap, cur, h1, h2, h3, _⟩
  · rw [h1] at e; cases e
  · rw [h1] at e
    have e : g = k := Option.some.inj e
    subst e
    exact kinds_apart (show Whole1 w g 25 cur from h3) hw (Ne.symm ht) rfl
theorem fitB_others {w w' : World} (hs : ∀ g t cs, t ≠ 25 → Whole1 w g t cs → Whole1 w' g t cs) {fv : Value} {F : ByteArray → Bool} (h : FitB w fv F) : FitB w' fv F := by
  rcases h with ⟨bx, value, e, h1, h2⟩ | ⟨nb, p, t, e, h1, h2, h3⟩
  · exact .inl ⟨bx, value, e, hs _ _ _ (by decide) h1, h2⟩
  · exact .inr ⟨nb, p, t, e, hs _ _ _ (by decide) h1, isTr_nodes (fun g u cs hu h => hs _ _ _ (by rcases hu with rfl | rfl <;> decide) h) t p h2, h3⟩
theorem MatAt.others {w w' : World} (hs : ∀ g t cs, t ≠ 25 → Whole1 w g t cs → Whole1 w' g t cs) {M : Nat} {kind : Int} {name value : ByteArray} {F : ByteArray → Bool} (h : MatAt w M kind name value F) : MatAt w' M kind name value F := by
  obtain ⟨fv, h1, h2⟩ := h
  refine ⟨fv, hs _ _ _ (by decide) h1, ?_⟩
  rcases h2 with h2 | ⟨tb, fv0, F0, e, k1, k2, k3⟩
  · exact .inl (fitB_others hs h2)
  · exact .inr ⟨tb, fv0, F0, e, hs _ _ _ (by decide) k1, fitB_others hs k2, k3⟩
theorem goodF_ok {l : List Ask} {x : Ask} {F : ByteArray → Bool} (h : newF x.kind x.name x.value = .ok F) : goodF (l ++ [x]) = goodF l ++ [(x.name, F)] := by
  unfold goodF
  rw [List.filterMap_append]
  simp [h]
theorem goodF_bad {l : List Ask} {x : Ask} {c : Int} (h : newF x.kind x.name x.value = .error c) : goodF (l ++ [x]) = goodF l := by
  unfold goodF
  rw [List.filterMap_append]
  simp [h]
/-- two pointers in a block of their own -/
theorem own_pair (w : World) (B : Nat) (hB : B ≤ w.heap.size) (u v : Value) : (w.alloc (.cells #[u, v] 25)).ownsRow B 25 1 (.slice (some ⟨w.heap.size, 0, none⟩) 2 2) 2 [u, v] :=
  ⟨rfl, .inr ⟨w.heap.size, 2, #[u, v], rfl, hB, Whole1.new w _ _, Nat.le_refl _, by decide, rfl, rfl⟩⟩
/-- both rows, and what they are of -/
structure Two (w0 w : World) (vo vt : Value) (ms ns : List Mt) : Prop where
  one : w.ownsRow w0.heap.size 25 1 vo ms.length (ms.map Mt.ptr)
  two : w.ownsRow w0.heap.size 25 1 vt ns.length (ns.map Mt.ptr)
  apart : ∀ g, vo.ownBlock = some g → vt.ownBlock ≠ some g
  m1 : ∀ x ∈ ms, MatAt w x.M x.kind x.name x.value x.F
  m2 : ∀ x ∈ ns, MatAt w x.M x.kind x.name x.value x.F
  below : Below w0.heap.size w0 w
theorem Two.on {w0 w w' : World} {vo vt : Value} {ms ns : List Mt} (h : Two w0 w vo vt ms ns) (hb : Below w.heap.size w w') : Two w0 w' vo vt ms ns :=
  ⟨own_below h.one hb (Nat.le_refl _), own_below h.two hb (Nat.le_refl _), h.apart, fun x hx => (h.m1 x hx).on hb, fun x hx => (h.m2 x hx).on hb, h.below.trans (hb.mono h.below.size)⟩
/-- one more at the end of the first -/
theorem Two.push1 {w0 w w' : World} {vo vt v1 : Value} {ms ns : List Mt} {x : Mt} (h : Two w0 w vo vt ms ns) (hx : MatAt w x.M x.kind x.name x.value x.F) (ho : w'.ownsRow w0.heap.size 25 1 v1 (ms.length + 1) (ms.map Mt.ptr ++ [x.ptr])) (hg : w.grownBy w' vo.ownBlock) (hat : v1.ownBlock = vo.ownBlock ∨ v1.ownBlock = some w.heap.size) :
    Two w0 w' v1 vt (ms ++ [x]) ns ∧ MatAt w' x.M x.kind x.name x.value x.F := by
  have hs := others_on h.one hg
  have hx' := hx.others hs
  refine ⟨⟨by simpa using ho, h.two.kept hg ?_, fun g hg1 e => ?_, fun y hy => ?_, fun y hy => (h.m2 y hy).others hs, h.below.grown hg h.below.size fun k hk => (h.one.lt k hk).1⟩, hx'⟩
  · cases hv : vt.ownBlock with
    | none => exact .inl rfl
    | some g => exact .inr fun e => h.apart g e.symm hv
  · rcases hat with hat | hat
    · rw [hat] at hg1; exact h.apart g hg1 e
    · rw [hat] at hg1
      have := (h.two.lt g e).2
      have : w.heap.size = g := Option.some.inj hg1
      omega
  · rcases List.mem_append.1 hy with hy | hy
    · exact (h.m1 y hy).others hs
    · rw [List.mem_singleton.1 hy]; exact hx'
/-- twice one more at the head of the second -/
theorem Two.push2 {w0 w w1 w' : World} {vo vt v2 vl : Value} {ms ns : List Mt} {x : Mt} (h : Two w0 w vo vt ms ns) (hx : MatAt w x.M x.kind x.name x.value x.F) (hb : Below w.heap.size w w1) (hl : w1.ownsRow w0.heap.size 25 1 vl 2 [x.ptr, x.ptr]) (hlb : ∀ g, vl.ownBlock = some g → w.heap.size ≤ g)
    (ho : w'.ownsRow w0.heap.size 25 1 v2 (2 + ns.length) ([x.ptr, x.ptr] ++ ns.map Mt.ptr)) (hg : w1.grownBy w' vl.ownBlock) (hat : v2.ownBlock = vl.ownBlock ∨ v2.ownBlock = some w1.heap.size) :
    Two w0 w' vo v2 ms (x :: x :: ns) := by
  have h1 := h.on hb
  have hs := others_on hl hg
  have hnew : ∀ g, v2.ownBlock = some g → w.heap.size ≤ g := fun g hg1 => by
    rcases hat with hat | hat
    · rw [hat] at hg1; exact hlb g hg1
    · rw [hat] at hg1
      have := hb.size
      have : w1.heap.size = g := Option.some.inj hg1
      omega
  refine ⟨h1.one.kept hg ?_, ?_, fun g hg1 e => ?_, fun y hy => (h1.m1 y hy).others hs, fun y hy => ?_, h1.below.grown hg h1.below.size fun k hk => ?_⟩
  · cases hv : vo.ownBlock with
    | none => exact .inl rfl
    | some g =>
      refine .inr fun e => ?_
      have := (h.one.lt g hv).2
      have := hlb g e.symm
      omega
  · have e1 : (x :: x :: ns).length = 2 + ns.length := by simp; omega
    rw [e1]
    exact ho
  · have := (h.one.lt g hg1).2
    have := hnew g e
    omega
  · simp only [List.mem_cons] at hy
    rcases hy with rfl | rfl | hy
    · exact (hx.on hb).others hs
    · exact (hx.on hb).others hs
    · exact (h1.m2 y hy).others hs
  · have := hlb k hk
    have := h.below.size
    omega

set_option maxHeartbeats 6400000 in
theorem matchOrder_any (A B : Option Addr) (n c m d : Nat) (l : List Ask) (ls : List Lbl) (w : World) (h : AskF w A n l) (hl : LbF w B m ls) :
    Calls Try.prog 4 #[.slice A n c, .slice B m d] w fun e w' => e = .returned (.bool true) ∧ Below w.heap.size w w' := by
  obtain ⟨i0, hi, hz0, hz1, hz2⟩ := info_parts infoM
  have H := hidden h
  have HL := hidden hl
  have hfew := h.few
  clear h hl
  go_enter Try.func4, Try.ntmps4
  go_wp2_with (first | (go_at_call 5; refine (wakes08_any _).mono ?_; rintro e w1 ⟨rfl, b1⟩))
  have HB1 := hidden b1
  clear b1
  go_loopw [5, 6, 18] (fun vo vt vi wr => ∃ (k : Nat) (ms ns : List Mt), vi = .int .i64 (k : Int) ∧ k ≤ n ∧ ms.length ≤ k ∧ ns.length ≤ 2 * k ∧ Hid (Two w wr vo vt ms ns) ∧ Hid (ms.map Mt.fit = goodF (l.take k)) ∧ Hid (∀ p, p ∈ ns.map Mt.fit ↔ p ∈ goodF (l.take k))) (fun _ _ vi _ => n - (intOf vi).toNat)
  case atStart => exact ⟨0, [], [], rfl, Nat.zero_le _, Nat.le_refl _, Nat.le_refl _, ⟨World.ownsRow_nil _ _ _ _, World.ownsRow_nil _ _ _ _, fun g h => (by cases h), by simp, by simp, HB1.out⟩, rfl, fun p => by simp [goodF]⟩
  case round =>
    obtain ⟨k, ms, ns, rfl, hk, hmk, hnk, htw, hg1, hg2⟩ := hrel
    have k0 : (0 : Int) ≤ (k : Int) := by omega
    obtain ⟨At, ct, rfl, hct, _⟩ := own_shape htw.out.two
    by_cases hlt : k < n
    · have k1 : (k : Int) < (n : Int) := by omega
      obtain ⟨g, o, x, rfl, hg, hx, c0, c1, c2, hxm⟩ := ask_cells (H.out.on htw.out.below) hlt
      have hT := hidden (take_snoc? hx)
      obtain ⟨hxn, hxv⟩ := H.out.sz x hxm
      have hb1 : Below wr.heap.size wr (wr.alloc (.cells #[.int .i64 x.kind, .string x.name, .string x.value] 38)) := (Below.refl _ _).alloc (Nat.le_refl _) _
      have hw1 := Whole1.new wr 38 #[.int .i64 x.kind, .string x.name, .string x.value]
      obtain ⟨w1, hww⟩ : ∃ w1, wr.alloc (.cells #[.int .i64 x.kind, .string x.name, .string x.value] 38) = w1 := ⟨_, rfl⟩
      rw [hww] at hb1 hw1
      have d0 := hw1.cell 0
      have d1 := hw1.cell 1
      have d2 := hw1.cell 2
      have HT1 := hidden (htw.out.on hb1)
      have S1 := hidden (new_any x.kind x.name x.value w1 hxn hxv)
      have HW := hidden hww
      rw [← hww] at d0 d1 d2
      have fwk : IntKind.i64.wrap ((k : Int) + 1) = (k : Int) + 1 := Go.IntWalk.i64_in _ (by omega)
      clear hx hxm hb1 hw1 hww htw HB1
      go_wp2_with fail
      rw [HW.out]
      refine S1.out.mono ?_
      rintro e w2 ⟨b2, hy⟩
      have HT2 := hidden (HT1.out.on b2)
      cases hN : newF x.kind x.name x.value with
      | error ce =>
        rw [hN] at hy
        obtain ⟨rfl, _⟩ := hy
        have HG1 := hidden (show ms.map Mt.fit = goodF (l.take (k + 1)) from by rw [hT.out, goodF_bad hN]; exact hg1.out)
        have HG2 := hidden (show ∀ p, p ∈ ns.map Mt.fit ↔ p ∈ goodF (l.take (k + 1)) from fun p => by rw [hT.out, goodF_bad hN]; exact hg2.out p)
        clear S1 c0 c1 c2 d0 d1 d2 hN b2
        go_wp2_with fail
        go_roundw
        case rel => exact ⟨k + 1, ms, ns, by go_num, by omega, by omega, by omega, HT2, HG1, HG2⟩
        case measure => simp [intOf]; omega
      | ok F =>
        rw [hN] at hy
        obtain ⟨M, rfl, hM⟩ := hy
        have HG1 := hidden (show (ms ++ [(⟨M, x.kind, x.name, x.value, F⟩ : Mt)]).map Mt.fit = goodF (l.take (k + 1)) from by rw [hT.out, goodF_ok hN, List.map_append, hg1.out]; rfl)
        have HG2 := hidden (show ∀ p, p ∈ ((⟨M, x.kind, x.name, x.value, F⟩ : Mt) :: ⟨M, x.kind, x.name, x.value, F⟩ :: ns).map Mt.fit ↔ p ∈ goodF (l.take (k + 1)) from fun p => by
          rw [hT.out, goodF_ok hN, List.mem_append, ← hg2.out p, List.map_cons, List.map_cons, List.mem_cons, List.mem_cons, List.mem_singleton]
          show p = (x.name, F) ∨ p = (x.name, F) ∨ _ ↔ _
          constructor
          · rintro (h | h | h)
            · exact .inr h
            · exact .inr h
            · exact .inl h
          · rintro (h | h)
            · exact .inr (.inr h)
            · exact .inl h)
        have hb3 : Below w2.heap.size w2 (w2.alloc (.cells #[.pointer (some ⟨M, 0, none⟩)] 25)) := (Below.refl _ _).alloc (Nat.le_refl _) _
        have hfr := Row.fresh w2 25 1 1 [.pointer (some ⟨M, 0, none⟩)] rfl
        have HT3 := hidden (HT2.out.on hb3)
        have hM3 := hM.on hb3
        have ho3 := HT3.out.one
        have hbs := HT3.out.below.size
        clear S1 c0 c1 c2 d0 d1 d2 hN b2 hM hb3
        go_upto_region 10 with (at_builtin; refine wpList_app _ rfl _ _ 36 rfl w.heap.size 25 i0 _ 1 8 Try.underlying36 hi hz0 hz1 hz2 rfl (by decide) _ _ _ rfl ho3 _ _ _ _ _ rfl hfr (by simp [Value.oneCell']) (by unfold maxLen; omega) (by omega) hbs ?_; intro v1 w4 hown4 hg4 hat4; obtain ⟨HT4, HM4⟩ := HT3.out.push1 (x := ⟨M, x.kind, x.name, x.value, F⟩) hM3 hown4 hg4 hat4; have HT4 := hidden HT4; have HM4 := hidden HM4; clear ho3 hM3 hown4 hg4 hat4 hbs hfr)
        have hb5 : Below w4.heap.size w4 (w4.alloc (.cells #[.pointer (some ⟨M, 0, none⟩), .pointer (some ⟨M, 0, none⟩)] 25)) := (Below.refl _ _).alloc (Nat.le_refl _) _
        have hl5 := own_pair w4 w.heap.size HT4.out.below.size (.pointer (some ⟨M, 0, none⟩)) (.pointer (some ⟨M, 0, none⟩))
        obtain ⟨A5, c5, e5, _, hr5⟩ := own_shape (own_below HT4.out.two hb5 (Nat.le_refl _))
        simp only [Value.slice.injEq, true_and] at e5
        obtain ⟨rfl, rfl⟩ := e5
        have hs5 : w.heap.size ≤ (w4.alloc (.cells #[.pointer (some ⟨M, 0, none⟩), .pointer (some ⟨M, 0, none⟩)] 25)).heap.size := by have := HT4.out.below.size; simp; omega
        have hone : ∀ u ∈ ns.map Mt.ptr, u.oneCell' = true := fun u hu => by
          obtain ⟨y, _, rfl⟩ := List.mem_map.1 hu
          rfl
        go_wp2_with (at_builtin; refine wpList_app _ rfl _ _ 36 rfl w.heap.size 25 i0 _ 1 8 Try.underlying36 hi hz0 hz1 hz2 rfl (by decide) _ _ _ rfl hl5 _ _ _ _ _ rfl hr5 hone (by unfold maxLen; omega) (by omega) hs5 ?_; intro v2 w6 hown6 hg6 hat6; have HT6 := HT4.out.push2 (x := ⟨M, x.kind, x.name, x.value, F⟩) HM4.out hb5 hl5 (fun g hg => by cases hg; exact Nat.le_refl _) hown6 hg6 hat6; have HT6 := hidden HT6; clear hl5 hown6 hg6 hat6 hr5)
        go_roundw
        case rel => exact ⟨k + 1, _, _, by go_num, by omega, by simp; omega, by simp; omega, HT6, HG1, HG2⟩
        case measure => simp [intOf]; omega
    · obtain rfl : n = k := by omega
      rw [List.take_of_length_le (by rw [H.out.len]; exact Nat.le_refl _)] at hg1 hg2
      obtain ⟨Ao, co, rfl, hco, hro⟩ := own_shape htw.out.one
      obtain ⟨At2, ct2, et, _, hrt⟩ := own_shape htw.out.two
      simp only [Value.slice.injEq, true_and] at et
      obtain ⟨rfl, rfl⟩ := et
      have HO := hidden (show MtRow wr Ao ms.length ms from ⟨hro, rfl, htw.out.m1⟩)
      have HTT := hidden (show MtRow wr At ns.length ns from ⟨hrt, rfl, htw.out.m2⟩)
      have HBR := hidden htw.out.below
      have HSAME := hidden (show allM ls ns = allM ls ms from by
        rw [allM_fit, allM_fit, hg1.out, Bool.eq_iff_iff, List.all_eq_true, List.all_eq_true]
        exact ⟨fun h p hp => h p ((hg2.out p).2 hp), fun h p hp => h p ((hg2.out p).1 hp)⟩)
      clear hro hrt htw hg1 hg2 HB1
      generalize wr = w0 at *
      go_wp2_with fail
      go_loopw [11, 46] (fun vw vi wr => ∃ j : Nat, vi = .int .i64 (j : Int) ∧ j ≤ ms.length ∧ vw = .bool (allM ls (ms.take j)) ∧ Hid (Below w0.heap.size w0 wr)) (fun _ vi _ => ms.length - (intOf vi).toNat)
      case atStart => exact ⟨0, rfl, Nat.zero_le _, rfl, Below.refl _ _⟩
      case round =>
        obtain ⟨j, rfl, hj, rfl, hb⟩ := hrel
        have j0 : (0 : Int) ≤ (j : Int) := by omega
        by_cases hjl : j < ms.length
        · have j1 : (j : Int) < (ms.length : Int) := by omega
          obtain ⟨g, o, x, rfl, hg, hx, hc, hM⟩ := mt_cell (HO.out.on hb.out) hjl
          have S1 := hidden (mmatches_any x.M x.kind x.name x.value x.F B m d ls wr hM (HL.out.on (HBR.out.trans (hb.out.mono HBR.out.size))))
          have HTK := hidden (show allM ls (ms.take (j + 1)) = (allM ls (ms.take j) && x.F (getL ls x.name)) from by rw [take_snoc? hx, allM, allM, List.all_append]; simp)
          have fwj : IntKind.i64.wrap ((j : Int) + 1) = (j : Int) + 1 := Go.IntWalk.i64_in _ (by omega)
          clear hx hM
          cases hq : allM ls (ms.take j) with
          | true =>
            have HTK2 := hidden (show allM ls (ms.take (j + 1)) = x.F (getL ls x.name) from by rw [HTK.out, hq]; rfl)
            clear hq
            go_wp2_with fail
            refine S1.out.mono ?_
            rintro e w2 ⟨rfl, b2⟩
            have HB2 := hidden (hb.out.trans (b2.mono hb.out.size))
            go_wp2_with fail
            go_roundw
            case rel => exact ⟨j + 1, by go_num, by omega, by rw [HTK2.out], HB2⟩
            case measure => simp [intOf]; omega
          | false =>
            have HTK2 := hidden (show allM ls (ms.take (j + 1)) = false from by rw [HTK.out, hq]; rfl)
            clear hq
            go_wp2_with fail
            go_roundw
            case rel => exact ⟨j + 1, by go_num, by omega, by rw [HTK2.out], hb⟩
            case measure => simp [intOf]; omega
        · obtain rfl : ms.length = j := by omega
          rw [List.take_length]
          obtain ⟨R, hR⟩ : ∃ R, allM ls ms = R := ⟨_, rfl⟩
          have S1 := hidden (mall_any B Ao m d ms.length co ls ms wr (HL.out.on (HBR.out.trans (hb.out.mono HBR.out.size))) (HO.out.on hb.out) (by omega))
          rw [hR] at S1 ⊢
          have HSAME2 := hidden (HSAME.out.trans hR)
          have hRR : (R == R) = true := by simp
          clear hR
          go_wp2_with fail
          refine S1.out.mono ?_
          rintro e w2 ⟨rfl, b2⟩
          have HB2 := hidden (hb.out.trans (b2.mono hb.out.size))
          have S2 := hidden (mall_any B At m d ns.length ct ls ns w2 (HL.out.on (HBR.out.trans (HB2.out.mono HBR.out.size))) (HTT.out.on HB2.out) (by omega))
          rw [HSAME2.out] at S2
          clear S1 b2
          go_wp2_with fail
          refine S2.out.mono ?_
          rintro e w3 ⟨rfl, b3⟩
          have HB3 := hidden (HB2.out.trans (b3.mono HB2.out.size))
          go_wp2_with fail
          go_ret
          exact ⟨rfl, HBR.out.trans (HB3.out.mono HBR.out.size)⟩

section
variable {H : Type} {enc : TypeId × Value → H} {W : World} {b : Nat}
instance : Inhabited Ask := ⟨⟨0, ⟨#[]⟩, ⟨#[]⟩⟩⟩
theorem opens_ask : Opens enc Try.prog W b 38 Ask.cells (fun x => x.name.size ≤ 140737488355328 ∧ x.value.size ≤ 140737488355328) := by
  intro fuel cs x h hf
  obtain ⟨n, hl, hp⟩ := open_ones Try.underlying38 (by kernel_rfl) (by kernel_rfl) h hf
  obtain ⟨u0, y0, c0, t0, f0⟩ := hp 0 _ rfl
  obtain ⟨u1, y1, c1, t1, f1⟩ := hp 1 _ rfl
  obtain ⟨u2, y2, c2, t2, f2⟩ := hp 2 _ rfl
  obtain ⟨s0, e0, _⟩ := opens_int (k := .i64) Try.underlying3 _ _ _ t0 f0
  obtain ⟨s1, e1, g1, _⟩ := opens_string Try.underlying9 _ _ _ t1 f1
  obtain ⟨s2, e2, g2, _⟩ := opens_string Try.underlying9 _ _ _ t2 f2
  simp only [List.cons.injEq, and_true] at e0 e1 e2
  subst e0 e1 e2
  match cs, hl with
  | [a, b, c], _ =>
    simp only [List.getElem?_cons_zero, List.getElem?_cons_succ, Option.some.injEq] at c0 c1 c2
    unfold reachBytes at g1 g2
    exact ⟨⟨s0, s1, s2⟩, by rw [c0, c1, c2]; rfl, by show s1.size ≤ _; omega, by show s2.size ≤ _; omega⟩
theorem open_asks {base : Nat} {v : Value} {d : DataW H} {ps : List MemPlace} (hv : Value.okWide Try.prog W .any base 35 v) (h : DataW.Trod enc Try.prog W 0 (fun _ => true) true 35 v d ps) (hF : Fits Try.prog W b 35 (d, ps)) :
    ∃ (A : Option Addr) (n c : Nat) (l : List Ask), v = .slice A n c ∧ AskF W A n l := by
  obtain ⟨s, rfl, ⟨h1, h2, h3⟩, h4, h5, _⟩ := open_arg_slice (k := 3) (f := Ask.cells) Try.underlying35 (by kernel_rfl) (by decide) (fun _ => rfl) opens_ask hv h hF
  rw [show Try.prog.bytesOf 38 = 40 from by kernel_rfl] at h5
  unfold reachBytes at h5
  exact ⟨s.A, s.n, s.c, s.l, rfl, ⟨h3, h2, by omega, h4⟩⟩
end
theorem matchOrder_walk {H : Type} (enc : TypeId × Value → H) : LawWalk enc Try.prog 4 Try.f4 (fun _ => True) := by
  intro W base args ds p hval hA hlt hsz _
  rw [Try.params4] at hval hA hsz
  obtain ⟨v0, vs0, d0, ds0, p0, q0, hargs, rfl, rfl, h0, r0⟩ := trodAll_cons hA
  obtain ⟨v1, vs1, d1, ds1, p1, q1, rfl, rfl, rfl, h1, r1⟩ := trodAll_cons r0
  obtain ⟨rfl, rfl, rfl⟩ := trodAll_nil r1
  obtain rfl : args = #[v0, v1] := by cases args; simp_all
  obtain ⟨A, n, c, l, rfl, hl⟩ := open_asks (hval 0 35 v0 rfl rfl) h0 (arg_fits (b := Rows.uptoBulkAll [d0, d1]) (j := 0) rfl rfl (fun x hx => hlt x (by simp [hx])) hsz (Nat.le_refl _))
  obtain ⟨B, m, d, ls, rfl, hls, _⟩ := open_labels (hval 1 31 v1 rfl rfl) h1 (arg_fits (b := Rows.uptoBulkAll [d0, d1]) (j := 1) rfl rfl (fun x hx => hlt x (by simp [hx])) hsz (Nat.le_refl _))
  exact matchOrder_any A B n c m d l ls W hl hls

namespace matchOrder
set_option maxRecDepth 100000 in
theorem lifted (os : Os) (started : os.Started) (H : Type) (enc : TypeId × Value → H) :
    ReturnsInHanded {} Try.checked os 4 .any (Rows.matchOrderSpec.pre6 enc Try.prog Try.f4 Rows.matchOrderRow.domain false) (Rows.matchOrderSpec.post enc Try.prog Try.f4 false true false false) :=
  law_said (C := Try.checked) (s := Rows.matchOrderSpec) (tb := 4) own_prog started (by kernel_rfl) Try.func4
    (ChangeSpec.witness6 (enc := enc) (C := Try.checked) false ⟨#[], #[.slice none 0 0, .slice none 0 0], []⟩ 8 (by kernel_rfl) (by kernel_rfl) (by kernel_rfl) (by kernel_rfl))
    laidOut (by kernel_rfl) rfl Try.underlying4 ⟨rfl, fun H ds h => match ds, h with | [_, _], _ => ⟨rfl, rfl, rfl⟩⟩ (matchOrder_walk enc)

theorem proved : Rows.MatchOrderSaid :=
  OpenClaim.holds_of_wide 4 Try.f4 rfl rfl rfl rfl rfl rfl rfl ⟨rfl, rfl, rfl, rfl, rfl⟩ rfl rfl rfl rfl rfl (by kernel_rfl) Try.func4 (by kernel_rfl)
    (of_decide_eq_true (by kernel_rfl)) (by unfold Func.isWrapper; first | (rw [if_pos (by decide +kernel)]; kernel_rfl) | (rw [if_neg (by decide +kernel)]; exact ⟨rfl, rfl⟩))
    (fun os started H enc _ => lifted os started H enc)
#print axioms proved
end matchOrder

end Go.Proofs.Ytalnndenncnbdaa
