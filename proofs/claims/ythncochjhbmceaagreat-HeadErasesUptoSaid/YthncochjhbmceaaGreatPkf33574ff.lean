/- append onto a slice that has no room: new memory. Condition: the row is within the reach. labels.Show and the reference's: a set as a text. Condition: the row is within the reach. labels.Get and the reference's: the value of a name. Condition: the row is within the reach. almanaclaw04.wakes: it holds. No condition. A law's arguments, opened. No condition. What the laws of labels take in, opened. No condition. labels.Encode, walked: the bytes of a set. Condition: the row is within the reach. strings.IndexByte of any text; of the digits to the base 16. No condition. -/
import Derived.Test.YthncochjhbmceaaGreatPk50eaee95
import Derived.Test.YthncochjhbmceaaGreatPk76b7f4ba
import Derived.Test.YthncochjhbmceaaGreatPk67e2a8de
import Derived.Test.YthncochjhbmceaaGreatPk45147243
import Derived.Test.YthncochjhbmceaaGreatPk785f11a4
import Derived.Lib.SmallJoins
import Derived.Test.YthncochjhbmceaaGreatPkddaa9167
import Derived.Lib.Bytealg
namespace Go.Proofs.YthncochjhbmceaaGreat
set_option maxRecDepth 100000
open Go.RowKit

section
variable {P : Program} (w : World)
end

end Go.Proofs.YthncochjhbmceaaGreat

namespace Go.Proofs.YthncochjhbmceaaGreat
set_option maxRecDepth 100000
open Go.RowKit

/-- one label as a text -/
def partL (x : Lbl) : List UInt8 := x.name.data.toList ++ 61 :: quoteL x.value.data.toList
def partB (x : Lbl) : ByteArray := ⟨(partL x).toArray⟩
/-- a list as a text -/
def showP (l : List Lbl) : List UInt8 := joinL (l.map partB)
def showL (l : List Lbl) : List UInt8 := if validP l then showP l else []
theorem valid_small {l : List Lbl} (h : validP l) : l.length ≤ 8 ∧ ∀ x ∈ l, x.name.size ≤ 32 ∧ x.value.size ≤ 64 := by
  obtain ⟨h1, h2, h3⟩ := makeErr_ok h.1
  refine ⟨h2, fun x hx => ?_⟩
  obtain ⟨a, b⟩ := make_fits h3 x hx
  unfold fitN at a
  unfold fitV at b
  simp only [Bool.and_eq_true, decide_eq_true_eq] at a b
  exact ⟨a.2.2, b.2⟩
end Go.Proofs.YthncochjhbmceaaGreat

namespace Go.Proofs.YthncochjhbmceaaGreat
set_option maxRecDepth 100000
open Go.RowKit

def getL : List Lbl → ByteArray → ByteArray
  | [], _ => ⟨#[]⟩
  | x :: l, nm => if x.name = nm then x.value else getL l nm
theorem getL_none : ∀ {l : List Lbl} {nm : ByteArray}, (∀ x ∈ l, x.name ≠ nm) → getL l nm = ⟨#[]⟩
  | [], _, _ => rfl
  | x :: l, nm, h => by rw [getL, if_neg (h x (by simp)), getL_none fun y hy => h y (by simp [hy])]
theorem getL_here : ∀ {l : List Lbl} {nm : ByteArray} {k : Nat} {x : Lbl}, (∀ y ∈ l.take k, y.name ≠ nm) → l[k]? = some x → x.name = nm → getL l nm = x.value
  | y :: l, nm, 0, x, _, hx, e => by
    simp only [List.getElem?_cons_zero, Option.some.injEq] at hx
    subst hx
    rw [getL, if_pos e]
  | y :: l, nm, k + 1, x, h, hx, e => by
    rw [getL, if_neg (h y (by simp)), getL_here (fun z hz => h z (by rw [List.take_succ_cons]; exact List.mem_cons_of_mem _ hz)) (by simpa using hx) e]

set_option maxHeartbeats 1600000 in
theorem lget_any (A : Option Addr) (n c : Nat) (l : List Lbl) (nm : ByteArray) (w : World) (h : LbF w A n l) :
    Calls Tryz.prog 100 #[.slice A n c, .string nm] w fun e w' => e = .returned (.string (getL l nm)) ∧ Below w.heap.size w w' := by
  have H := hidden h
  have hfit := h.fit
  clear h
  go_enter Tryz.func100, Tryz.ntmps100
  go_wp2_with fail
  go_loopw [9] (fun vi wr => ∃ k : Nat, k ≤ n ∧ vi = .int .i64 k ∧ Hid (∀ y ∈ l.take k, y.name ≠ nm) ∧ Below w.heap.size w wr) (fun vi _ => n - (intOf vi).toNat)
  case atStart => exact ⟨0, Nat.zero_le _, rfl, hidden (by simp), Below.refl _ _⟩
  case round =>
    obtain ⟨k, hk, rfl, hno, hb⟩ := hrel
    have k0 : (0 : Int) ≤ (k : Int) := by omega
    by_cases hlt : k < n
    · have k1 : (k : Int) < (n : Int) := by omega
      obtain ⟨g, o, x, rfl, hg, hx, d0, d1, _⟩ := lb_cells (H.out.on hb) hlt
      have HX := hidden hx
      have HBa := hidden (hb.alloc hb.size (.cells #[.string x.name, .string x.value] 70))
      have hs := str_eq x.name nm
      clear hx hb
      by_cases he : x.name = nm
      · rw [decide_eq_true he] at hs
        have hG := hidden (getL_here hno.out HX.out he)
        clear he
        go_wp2_with fail
        go_ret
        rw [hG.out]
        exact ⟨rfl, HBa.out⟩
      · rw [decide_eq_false he] at hs
        have hno2 : Hid (∀ y ∈ l.take (k + 1), y.name ≠ nm) := fun y hy => by
          rw [take_snoc? HX.out, List.mem_append, List.mem_singleton] at hy
          rcases hy with hy | rfl
          · exact hno.out y hy
          · exact he
        clear he
        go_wp2_with fail
        go_roundw
        case rel => exact ⟨k + 1, by omega, by go_num, hno2, HBa.out⟩
        case measure => simp [intOf]; omega
    · obtain rfl : n = k := by omega
      have k1 : ¬ (n : Int) < (n : Int) := by omega
      have hG := hidden (getL_none (l := l) (nm := nm) (by
        have := hno.out
        rwa [List.take_of_length_le (by rw [H.out.len]; exact Nat.le_refl _)] at this))
      go_wp2_with fail
      go_ret
      rw [hG.out]
      exact ⟨rfl, hb⟩

end Go.Proofs.YthncochjhbmceaaGreat

namespace Go.Proofs.YthncochjhbmceaaGreat
set_option maxRecDepth 100000
open Go.RowKit

def wkL : List Lbl := [⟨⟨#[98]⟩, ⟨#[49]⟩⟩, ⟨⟨#[97]⟩, ⟨#[120]⟩⟩]
def wkS : List Lbl := [⟨⟨#[97]⟩, ⟨#[120]⟩⟩, ⟨⟨#[98]⟩, ⟨#[49]⟩⟩]
end Go.Proofs.YthncochjhbmceaaGreat

namespace Go.Proofs.YthncochjhbmceaaGreat
set_option maxRecDepth 100000
open Go.RowKit Go.WideShapes

section
variable {H : Type} {enc : TypeId × Value → H} {P : Program} {W : World} {b : Nat}

theorem arg_fits {ts : List TypeId} {ds : List (DataW H)} {j : Nat} {t : TypeId} {d : DataW H} {ps : List MemPlace} (ht : ts[j]? = some t) (hd : ds[j]? = some d) (hlt : ∀ x ∈ ps, x.block < W.heap.size)
    (hsz : (DataW.weightsEach P ts ds).all (· ≤ reachBytes) = true) (hb : Rows.uptoBulkAll ds ≤ b) : Fits P W b t (d, ps) :=
  ⟨hlt, fun k hk => of_decide_eq_true (List.all_eq_true.1 hsz k (weights_each ht hd hk)), by have := bulk_mem (List.mem_of_getElem? hd); simp only; omega⟩

theorem open_arg_slice {t e : TypeId} {α : Type} [Inhabited α] {f : α → List Value} {G : α → Prop} {k base : Nat} {v : Value} {d : DataW H} {ps : List MemPlace} (ht : P.underlying t = some (.slice e)) (hC : P.cellsOf e = k) (hk : 0 < k) (hlen : ∀ a, (f a).length = k) (he : Opens enc P W b e f G)
    (hv : Value.okWide P W .any base t v) (h : DataW.Trod enc P W 0 (fun _ => true) true t v d ps) (hF : Fits P W b t (d, ps)) :
    ∃ s : Sl α, v = s.val ∧ s.At W W.heap.size k f ∧ (∀ a ∈ s.l, G a) ∧ s.n * P.bytesOf e ≤ reachBytes ∧ s.n ≤ b := by
  obtain ⟨A, n, c, rfl⟩ := okWide_slice ht hv
  obtain ⟨fuel, hf⟩ := h
  obtain ⟨s, hs, hG⟩ := opens_slice ht hC hk hlen he _ _ _ hf hF
  simp only [Value.cells, List.cons.injEq, and_true] at hs
  exact ⟨s, hs, hG⟩

end
end Go.Proofs.YthncochjhbmceaaGreat

namespace Go.Proofs.YthncochjhbmceaaGreat
set_option maxRecDepth 100000
open Go.RowKit Go.WideShapes Go.ChangeShapes

section
variable {H : Type} {enc : TypeId × Value → H} {W : World} {b : Nat}
theorem opens_lblS : Opens enc Tryz.prog W b 70 Lbl.cells (fun x => x.name.size ≤ 140737488355328 ∧ x.value.size ≤ 140737488355328) := by
  intro fuel cs x h hf
  obtain ⟨n, hl, hp⟩ := open_ones Tryz.underlying70 (by kernel_rfl) (by kernel_rfl) h hf
  obtain ⟨u0, y0, c0, t0, f0⟩ := hp 0 _ rfl
  obtain ⟨u1, y1, c1, t1, f1⟩ := hp 1 _ rfl
  obtain ⟨s0, e0, g0, _⟩ := opens_string Tryz.underlying9 _ _ _ t0 f0
  obtain ⟨s1, e1, g1, _⟩ := opens_string Tryz.underlying9 _ _ _ t1 f1
  simp only [List.cons.injEq, and_true] at e0 e1
  subst e0 e1
  match cs, hl with
  | [a, c], _ =>
    simp only [List.getElem?_cons_zero, List.getElem?_cons_succ, Option.some.injEq] at c0 c1
    unfold reachBytes at g0 g1
    exact ⟨⟨s0, s1⟩, by rw [c0, c1]; rfl, by show s0.size ≤ _; omega, by show s1.size ≤ _; omega⟩
end

theorem make_sz {l : List Lbl} (h : ∀ x ∈ l, x.name.size ≤ 140737488355328 ∧ x.value.size ≤ 140737488355328) : ∀ x ∈ makeL l, x.name.size ≤ 140737488355328 ∧ x.value.size ≤ 140737488355328 := fun x hx => by
  unfold makeL at hx
  split at hx
  · exact h x ((sortN_perm l).mem_iff.1 hx)
  · cases hx
theorem makeLaw (A : Option Addr) (n c : Nat) (l : List Lbl) (w : World) (h : LbF w A n l) (hnc : n ≤ c) :
    Calls Tryz.prog 60 #[.slice A n c] w fun e w' => ∃ B c', e = .returned (.tuple #[.slice B (makeL l).length c', .int .i64 (makeErr l)]) ∧ LbF w' B (makeL l).length (makeL l) ∧ (makeL l).length ≤ c' ∧ Below w.heap.size w w' := by
  refine (lmake_any A n c l w h hnc).mono ?_
  rintro e w' ⟨v, rfl, hown, hb⟩
  obtain ⟨B, c', rfl, hc, hr⟩ := own_shape hown
  exact ⟨B, c', rfl, ⟨hr, rfl, by have := makeL_len (l := l); omega, make_sz h.sz⟩, hc, hb⟩
end Go.Proofs.YthncochjhbmceaaGreat

namespace Go.Proofs.YthncochjhbmceaaGreat
set_option maxRecDepth 100000
open Go.RowKit

def labE (x : Lbl) : List UInt8 := textL x.name ++ textL x.value
def encB (l : List Lbl) : List UInt8 := l.flatMap labE
theorem encB_snoc (l : List Lbl) (x : Lbl) : encB (l ++ [x]) = encB l ++ textL x.name ++ textL x.value := by simp [encB, labE]
/-- the bytes of a set, or the error -/
def encLb (l : List Lbl) : ByteArray × Int := if makeErr l = 0 then (if validP l then (⟨(uintL l.length ++ encB l).toArray⟩, 0) else (⟨#[]⟩, 42)) else (⟨#[]⟩, (makeErr l : Nat))
theorem encLb_err {l : List Lbl} (h : makeErr l ≠ 0) : encLb l = (⟨#[]⟩, ((makeErr l : Nat) : Int)) := if_neg h
theorem encLb_bad {l : List Lbl} (h : makeErr l = 0) (hv : ¬ validP l) : encLb l = (⟨#[]⟩, 42) := by rw [encLb, if_pos h, if_neg hv]
theorem encLb_ok {l : List Lbl} (hv : validP l) : encLb l = (⟨(uintL l.length ++ encB l).toArray⟩, 0) := by rw [encLb, if_pos hv.1, if_pos hv]
theorem textL_len {v : ByteArray} {m : Nat} (h : v.size ≤ m) (hm : m ≤ 1000) : (textL v).length ≤ 10 + m := by
  have := uintL_ten (v := v.size) (by omega)
  have e : v.data.toList.length = v.size := rfl
  rw [textL, List.length_append]; omega
theorem encB_len {l : List Lbl} (h : ∀ x ∈ l, x.name.size ≤ 32 ∧ x.value.size ≤ 64) : (encB l).length ≤ 116 * l.length := by
  induction l with
  | nil => simp [encB]
  | cons x l ih =>
    have h1 := ih fun y hy => h y (List.mem_cons_of_mem _ hy)
    obtain ⟨h2, h3⟩ := h x (List.mem_cons_self ..)
    have := textL_len h2 (by omega)
    have := textL_len h3 (by omega)
    simp only [encB, List.flatMap_cons, List.length_append, List.length_cons, labE] at h1 ⊢
    omega

set_option maxHeartbeats 6400000 in
theorem lenc_any (A : Option Addr) (n c : Nat) (l : List Lbl) (w : World) (h : LbF w A n l) (hnc : n ≤ c) :
    Calls Tryz.prog 28 #[.slice A n c] w fun e w' => e = .returned (.tuple #[.string (encLb l).1, .int .i64 (encLb l).2]) ∧ Below w.heap.size w w' := by
  have H := hidden h
  have S1 := hidden (makeLaw A n c l w h hnc)
  have S2 := hidden (fun W hW => lvalid_any A n c l W (h.on hW) hnc)
  clear h
  by_cases he : makeErr l = 0
  · rw [he] at S1
    by_cases hv : validP l
    · have HU := hidden (encLb_ok hv)
      obtain ⟨hl8, hlx⟩ := valid_small hv
      have hn8 : n ≤ 8 := by have := H.out.len; omega
      have HLX := hidden hlx
      rw [decide_eq_true hv] at S2
      have hu : IntKind.u64.wrap (n : Int) = (n : Int) := Go.IntWalk.u64_in _ (by omega)
      clear hv he hlx hl8
      go_enter Tryz.func28, Tryz.ntmps28
      go_wp2_with fail
      refine S1.out.mono ?_
      rintro e w1 ⟨B1, c1, rfl, _, _, b1⟩
      have B1 := hidden b1
      have S3 := hidden (S2.out w1 b1)
      clear b1 S1 S2
      go_wp2_with fail
      refine S3.out.mono ?_
      rintro e w2 ⟨rfl, b2⟩
      have HB2 := hidden (B1.out.trans (b2.mono B1.out.size))
      clear b2 S3 B1
      go_wp2_with fail
      have hI := bld_new w2
      have hB : Below w2.heap.size w2 (w2.alloc (.cells #[.pointer none, .slice none 0 0] 178)) := (Below.refl _ _).alloc (Nat.le_refl _) _
      generalize w2.alloc (.cells #[.pointer none, .slice none 0 0] 178) = w3 at hI hB ⊢
      obtain ⟨g, hg⟩ : ∃ g, w2.heap.size = g := ⟨_, rfl⟩
      have HG := hidden hg
      rw [hg] at hI hB ⊢
      have hU := hidden (uint_any n w3 (by omega))
      have hgw : w.heap.size ≤ g := by have := HB2.out.size; omega
      go_wp2_with fail
      refine hU.out.mono ?_
      rintro e w4 ⟨rfl, hb4⟩
      have hI4 := bld_below hI hb4
      have hs4 : g ≤ w3.heap.size := by have := hB.size; omega
      have B4 : Below g w2 w4 := hB.trans (hb4.mono hs4)
      have hut := uintL_ten (v := n) (by omega)
      clear hI hU hB hg
      go_wp2_with fail
      refine (bldStr_any g g (Lib.byteCells []) ⟨(uintL n).toArray⟩ w4 hI4 (by simp [Lib.byteCells, ByteArray.size]; omega) (by have := B4.size; have := HG.out; omega)).mono ?_
      rintro e w5 ⟨rfl, hI5, hb5, _⟩
      have hI5' := hidden (show Lib.IsBuilder 178 5 g g (Lib.byteCells (uintL n)) w5 from .inr hI5)
      have B5 := hidden (B4.trans hb5)
      clear hI4 hb4 hs4 B4 hI5 hb5
      go_wp2_with fail
      go_loopw [29] (fun i wr => ∃ (k : Nat), k ≤ n ∧ i = .int .i64 k ∧ Hid (Lib.IsBuilder 178 5 g g (Lib.byteCells (uintL n ++ encB (l.take k))) wr) ∧ Hid (Below g w2 wr)) (fun i _ => n - (intOf i).toNat)
      case atStart => exact ⟨0, Nat.zero_le _, rfl, by simpa [encB, Hid] using hI5', B5⟩
      case round =>
        obtain ⟨k, hk, rfl, hbd, hb⟩ := hrel
        clear hI5' B5
        have k0 : (0 : Int) ≤ (k : Int) := by omega
        have HBW := hidden (HB2.out.trans (hb.out.mono hgw))
        by_cases hlt : k < n
        · have k1 : (k : Int) < (n : Int) := by omega
          obtain ⟨gs, o, x, rfl, _, hx, c0, c1, hxm⟩ := lb_cells (H.out.on HBW.out) hlt
          obtain ⟨hx1, hx2⟩ := HLX.out x hxm
          have hT : Hid (encB (l.take (k + 1)) = encB (l.take k) ++ textL x.name ++ textL x.value) := by rw [Hid, take_snoc? hx, encB_snoc]
          have hel : (encB (l.take k)).length ≤ 116 * 8 := by
            have h1 := encB_len (l := l.take k) fun y hy => HLX.out y (List.mem_of_mem_take hy)
            have h2 : (l.take k).length ≤ 8 := by rw [List.length_take]; omega
            omega
          have t1 := textL_len hx1 (by omega)
          have t2 := textL_len hx2 (by omega)
          have hgr : g ≤ wr.heap.size := by have := hb.out.size; have := HG.out; omega
          clear hx hxm
          go_wp2_with fail
          have X1 := Whole1.new wr 70 #[.string x.name, .string x.value]
          have hbA : Below wr.heap.size wr (wr.alloc (.cells #[.string x.name, .string x.value] 70)) := (Below.refl _ _).alloc (Nat.le_refl _) _
          generalize wr.alloc (.cells #[.string x.name, .string x.value] 70) = wa at X1 hbA ⊢
          have hbd2 := bld_below hbd.out hbA
          have hb2 := hb.out.trans (hbA.mono hgr)
          obtain ⟨X, hX⟩ : ∃ X, wr.heap.size = X := ⟨_, rfl⟩
          rw [hX] at X1 ⊢
          have XH : wa.heap[X]? = some (.cells #[.string x.name, .string x.value] 70 (0, 0)) := X1
          have hXl : X < wa.heap.size := X1.lt
          clear X1 hbd hbA c0 c1 hX
          refine (text_any x.name wa (by omega)).mono ?_
          rintro e wb ⟨rfl, hbB⟩
          have hga := hb2.size
          have hbd3 := bld_below hbd2 hbB
          have hb3 := hb2.trans (hbB.mono (by have := HG.out; omega))
          have XH2 := (hbB.block X hXl).trans XH
          clear hbd2 hbB hb2 hga hXl XH
          go_wp2_with fail
          refine (bldStr_any g g _ ⟨(textL x.name).toArray⟩ wb hbd3 (by rw [Lib.byteCells_length, List.length_append]; simp only [ByteArray.size, List.size_toArray]; omega) (by have := hb3.size; have := HG.out; omega)).mono ?_
          rintro e wc ⟨rfl, hI5, hb5, ho5⟩
          have hI6 : Lib.IsBuilder 178 5 g g (Lib.byteCells (uintL n ++ encB (l.take k) ++ textL x.name)) wc := .inr (by rw [Lib.byteCells_append (uintL n ++ encB (l.take k))]; exact hI5)
          have hb6 := hb3.trans hb5
          have XH3 := ho5 X _ _ _ XH2 (by decide) (by decide)
          have e2 : wc.cell? ⟨X, 1, none⟩ = some (.string x.value) := by rw [Lib.cell_of_heap XH3]; rfl
          clear hI5 hb5 ho5 XH2 XH3 hb3 hbd3
          go_wp2_with fail
          refine (text_any x.value wc (by omega)).mono ?_
          rintro e wd ⟨rfl, hb7⟩
          have hs7 := hb6.size
          have hI7 := bld_below hI6 hb7
          have hb8 := hb6.trans (hb7.mono (by have := HG.out; omega))
          clear hI6 hb7 hb6 hs7
          go_wp2_with fail
          refine (bldStr_any g g _ ⟨(textL x.value).toArray⟩ wd hI7 (by rw [Lib.byteCells_length, List.length_append, List.length_append]; simp only [ByteArray.size, List.size_toArray]; omega) (by have := hb8.size; have := HG.out; omega)).mono ?_
          rintro e we ⟨rfl, hI8, hb9, _⟩
          have hI9 : Lib.IsBuilder 178 5 g g (Lib.byteCells (uintL n ++ encB (l.take (k + 1)))) we := .inr (by
            have e9 : uintL n ++ encB (l.take (k + 1)) = (uintL n ++ encB (l.take k) ++ textL x.name) ++ textL x.value := by rw [hT.out]; simp
            rw [e9, Lib.byteCells_append (uintL n ++ encB (l.take k) ++ textL x.name)]; exact hI8)
          have hI10 := hidden hI9
          have hb10 := hidden (hb8.trans hb9)
          clear hI8 hb9 hI7 hb8 hI9
          go_wp2_with fail
          go_roundw
          case rel => exact ⟨k + 1, by omega, by go_num, hI10, hb10⟩
          case measure => simp [intOf]; omega
        · have k2 : ¬ (k : Int) < (n : Int) := by omega
          have hkn : k = n := by omega
          have hne : uintL n ++ encB (l.take k) ≠ [] := fun h => uintL_ne n (List.append_eq_nil_iff.1 h).1
          go_wp2_with fail
          refine (bldString_any g g _ wr hbd.out hne).mono ?_
          rintro e wz ⟨rfl, hbz⟩
          go_wp2_with fail
          go_ret2
          rw [HU.out]
          have ht : l.take n = l := List.take_of_length_le (by have := H.out.len; omega)
          subst hkn
          have hln := H.out.len
          exact ⟨by rw [ht, hln]; rfl, HB2.out.trans ((hb.out.trans hbz).mono hgw)⟩
    · have HU := hidden (encLb_bad he hv)
      rw [decide_eq_false hv] at S2
      clear hv he
      go_enter Tryz.func28, Tryz.ntmps28
      go_wp2_with fail
      refine S1.out.mono ?_
      rintro e w1 ⟨B1, c1, rfl, _, _, b1⟩
      have B1 := hidden b1
      have S3 := hidden (S2.out w1 b1)
      clear b1 S1 S2
      go_wp2_with fail
      refine S3.out.mono ?_
      rintro e w2 ⟨rfl, b2⟩
      have HB2 := hidden (B1.out.trans (b2.mono B1.out.size))
      clear b2 S3 B1
      go_wp2_with fail
      go_ret2
      rw [HU.out]
      exact ⟨rfl, HB2.out⟩
  · have HU := hidden (encLb_err he)
    have e0 : (((makeErr l : Nat) : Int) != 0) = true := by simpa using he
    clear he
    go_enter Tryz.func28, Tryz.ntmps28
    go_wp2_with fail
    refine S1.out.mono ?_
    rintro e w1 ⟨B1, c1, rfl, _, _, b1⟩
    go_wp2_with fail
    go_ret2
    rw [HU.out]
    exact ⟨rfl, b1⟩
end Go.Proofs.YthncochjhbmceaaGreat

namespace Go.Proofs.YthncochjhbmceaaGreat
set_option maxRecDepth 100000
open Go.RowKit

def digits16 : ByteArray := ⟨#[48, 49, 50, 51, 52, 53, 54, 55, 56, 57, 97, 98, 99, 100, 101, 102]⟩
end Go.Proofs.YthncochjhbmceaaGreat
