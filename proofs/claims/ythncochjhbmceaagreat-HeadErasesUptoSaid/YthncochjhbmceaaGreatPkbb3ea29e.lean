/- What is asked for, made matchers: law 18's own list and the document's, walked. Condition: the texts are no longer than memory. What is asked for, opened (almanaclaw18). No condition. A row of cursors of the call's own, under way. No program is walked here. Sets as an index has them, plainly: each name once; what has a label. No condition. What index.fitting answers, plainly; the walk's helpers. No program is walked here. -/
import Derived.Test.YthncochjhbmceaaGreatPkfbcc5b6d
import Derived.Test.YthncochjhbmceaaGreatPk1dcfe404
import Derived.Test.YthncochjhbmceaaGreatPkcb2a848b
import Derived.Test.YthncochjhbmceaaGreatPk56d15d90
import Derived.Test.YthncochjhbmceaaGreatPka2a7b020
import Derived.Test.YthncochjhbmceaaGreatPk362cfb5c
import Derived.Test.YthncochjhbmceaaGreatPk584e6475
namespace Go.Proofs.YthncochjhbmceaaGreat
set_option maxRecDepth 100000
open Go.RowKit

set_option maxHeartbeats 6400000 in
theorem matchers18_any (A : Option Addr) (n c : Nat) (l : List Ask) (w : World) (h : AskF w A n l) :
    Calls Tryz.prog 21 #[.slice A n c] w fun e w' => ∃ vm vw ms, e = .returned (.tuple #[vm, vw]) ∧ Pr w w' vm vw ms (goodA l) ∧ ms.map Mt.fit = goodF l ∧ ms.length ≤ n := by
  obtain ⟨iM, hiM, hzM0, hzM1, hzM2⟩ := info_parts infoM
  obtain ⟨iW, hiW, hzW0, hzW1, hzW2⟩ := info_parts infoW8
  have H := hidden h
  have hfew := h.few
  clear h
  go_enter Tryz.func21, Tryz.ntmps21
  go_wp2_with fail
  go_loopw [4, 5, 14] (fun vm vw vi wr => ∃ (k : Nat) (ms : List Mt), vi = .int .i64 (k : Int) ∧ k ≤ n ∧ ms.length ≤ k ∧ (goodA (l.take k)).length ≤ k ∧ Hid (Pr w wr vm vw ms (goodA (l.take k))) ∧ Hid (ms.map Mt.fit = goodF (l.take k))) (fun _ _ vi _ => n - (intOf vi).toNat)
  case atStart => exact ⟨0, [], rfl, Nat.zero_le _, Nat.le_refl _, Nat.le_refl _, ⟨World.ownsRow_nil _ _ _ _, World.ownsRow_nil _ _ _ _, by simp, Below.refl _ _⟩, rfl⟩
  case round =>
    obtain ⟨k, ms, rfl, hk, hmk, hlk, htw, hg1⟩ := hrel
    have k0 : (0 : Int) ≤ (k : Int) := by omega
    by_cases hlt : k < n
    · have k1 : (k : Int) < (n : Int) := by omega
      obtain ⟨g, o, x, rfl, hg, hx, c0, c1, c2, hxm⟩ := ask_cells (H.out.on htw.out.below) hlt
      have hT := hidden (take_snoc? hx)
      obtain ⟨hxn, hxv⟩ := H.out.sz x hxm
      have hb1 : Below wr.heap.size wr (wr.alloc (.cells #[.int .i64 x.kind, .string x.name, .string x.value] 158)) := (Below.refl _ _).alloc (Nat.le_refl _) _
      have hw1 := Whole1.new wr 158 #[.int .i64 x.kind, .string x.name, .string x.value]
      obtain ⟨w1, hww⟩ : ∃ w1, wr.alloc (.cells #[.int .i64 x.kind, .string x.name, .string x.value] 158) = w1 := ⟨_, rfl⟩
      rw [hww] at hb1 hw1
      have d0 := hw1.cell 0
      have d1 := hw1.cell 1
      have d2 := hw1.cell 2
      have HW1 := hidden hw1
      have HT1 := hidden (htw.out.on hb1)
      have S1 := hidden (new_any x.kind x.name x.value w1 hxn hxv)
      have HW := hidden hww
      rw [← hww] at d0 d1 d2
      have fwk : IntKind.i64.wrap ((k : Int) + 1) = (k : Int) + 1 := Go.IntWalk.i64_in _ (by omega)
      clear hx hxm hb1 hw1 hww htw
      go_wp2_with fail
      rw [HW.out]
      refine S1.out.mono ?_
      rintro e w2 ⟨b2, hy⟩
      have HT2 := hidden (HT1.out.on b2)
      obtain ⟨R, hR⟩ : ∃ R, wr.heap.size = R := ⟨_, rfl⟩
      have hw2 := HW1.out.below b2 HW1.out.lt
      have HS2 := hidden (fun w => rnew_any x.kind x.name x.value w hxn hxv)
      rw [hR] at hw2
      have e0 := hw2.cell 0
      have e1 := hw2.cell 1
      have e2 := hw2.cell 2
      rw [hR]
      have HI := hidden (new_iff x.kind x.name x.value)
      obtain ⟨E, hE⟩ : ∃ E, newE x.kind x.name x.value = E := ⟨_, rfl⟩
      rw [hE] at HS2 HI
      have HNE := hidden hE
      clear hE hw2 S1 c0 c1 c2 d0 d1 d2
      cases hN : newF x.kind x.name x.value with
      | error ce =>
        rw [hN] at hy
        obtain ⟨rfl, hce⟩ := hy
        have HE0 := hidden (show E ≠ 0 from fun h => by
          obtain ⟨F, hF⟩ := HI.out.1 h
          rw [hN] at hF; cases hF)
        have HG1 := hidden (show ms.map Mt.fit = goodF (l.take (k + 1)) from by rw [hT.out, goodF_bad hN]; exact hg1.out)
        have HGA := hidden (show goodA (l.take (k + 1)) = goodA (l.take k) from by rw [hT.out, goodA_bad (by rw [HNE.out]; exact HE0.out)])
        have ce0 : (ce == 0) = false := by simpa using hce
        clear hN b2 HI
        go_wp2_with fail
        refine (HS2.out _).mono ?_
        rintro e w3 ⟨v3, rfl, _, ⟨a3, b3, c3, rfl⟩, b3w⟩
        have HT3 := hidden (HT2.out.on b3w)
        clear e0 e1 e2 HS2 b3w
        have hb4 : Below w3.heap.size w3 (w3.alloc (.cells #[.int .i64 a3, .string b3, .string c3] 163)) := (Below.refl _ _).alloc (Nat.le_refl _) _
        have HT4 := hidden (HT3.out.on hb4)
        clear hb4
        go_wp2_with fail
        go_roundw
        case rel => exact ⟨k + 1, ms, by go_num, by omega, by omega, by rw [HGA.out]; omega, by rw [HGA.out]; exact HT4.out, HG1.out⟩
        case measure => simp [intOf]; omega
      | ok F =>
        rw [hN] at hy
        obtain ⟨M, rfl, hM⟩ := hy
        have hE0 : E = 0 := HI.out.2 ⟨F, hN⟩
        subst hE0
        have HG1 := hidden (show (ms ++ [(⟨M, x.kind, x.name, x.value, F⟩ : Mt)]).map Mt.fit = goodF (l.take (k + 1)) from by rw [hT.out, goodF_ok hN, List.map_append, hg1.out]; rfl)
        have HGA := hidden (show goodA (l.take (k + 1)) = goodA (l.take k) ++ [x] from by rw [hT.out, goodA_ok HNE.out])
        clear hN b2 HI
        go_wp2_with fail
        refine (HS2.out _).mono ?_
        rintro e w3 ⟨v3, rfl, hv3, _, b3w⟩
        obtain rfl := hv3 trivial
        have HT3 := hidden (HT2.out.on b3w)
        have hM3 := hM.on b3w
        have hb4 : Below w3.heap.size w3 (w3.alloc (.cells #[.int .i64 x.kind, .string x.name, .string x.value] 163)) := (Below.refl _ _).alloc (Nat.le_refl _) _
        obtain ⟨w4, hw4⟩ : ∃ w4, w3.alloc (.cells #[.int .i64 x.kind, .string x.name, .string x.value] 163) = w4 := ⟨_, rfl⟩
        obtain ⟨Y, hY⟩ : ∃ Y, w3.heap.size = Y := ⟨_, rfl⟩
        have hY4 := Whole1.new w3 163 #[.int .i64 x.kind, .string x.name, .string x.value]
        rw [hw4] at hY4 hb4
        rw [hY] at hY4
        have HP4 := hidden (HT3.out.on hb4)
        have HM4 := hidden (hM3.on hb4)
        have HY4 := hidden hY4
        clear e0 e1 e2 HS2 b3w hM hM3 hv3
        go_upto_region 9 with (fail)
        have hYd := hY4
        have y0 := hYd.cell 0
        have y1 := hYd.cell 1
        have y2 := hYd.cell 2
        have z0 := (hYd.alloc (.cells #[.pointer (some ⟨M, 0, none⟩)] 159)).cell 0
        have z1 := (hYd.alloc (.cells #[.pointer (some ⟨M, 0, none⟩)] 159)).cell 1
        have z2 := (hYd.alloc (.cells #[.pointer (some ⟨M, 0, none⟩)] 159)).cell 2
        have few1 : ms.length + 1 ≤ 3518437208883 := by omega
        have few2 : (goodA (l.take k)).length + 1 ≤ 3518437208883 := by omega
        have HP := HP4
        have HM := HM4
        have HY := hidden hYd
        have HK : Hid True := hidden trivial
        clear hY4 HY4 HM4 HP4 hYd
        go_region_law (first | (refine stepM (x := ⟨M, x.kind, x.name, x.value, F⟩) rfl _ _ rfl rfl rfl (by first | exact HP.out | exact HP.out.on (below1 _ _) | exact HP.out.on (below2 _ _ _) | exact HP.out.on (below1d _ _) | exact HP.out.on (below2d _ _ _)) (by first | exact HM.out | exact HM.out.on (below1 _ _) | exact HM.out.on (below2 _ _ _) | exact HM.out.on (below1d _ _) | exact HM.out.on (below2d _ _ _)) (by first | exact Whole1.new _ _ _ | exact (Whole1.new _ _ _).alloc _ | exact new_plus _ _ _ _ | exact HK.out _ _ _ (by decide) (Whole1.new _ _ _) | exact HK.out _ _ _ (by decide) ((Whole1.new _ _ _).alloc _) | exact HK.out _ _ _ (by decide) (new_plus _ _ _ _)) few1 ?_; intro v10 w10 hP10 hK10; have HM := hidden (hP10.m1 ⟨M, x.kind, x.name, x.value, F⟩ (by simp)); have HP := hidden hP10; try (have HY := hidden (hK10 Y 163 #[.int .i64 x.kind, .string x.name, .string x.value] (by decide) (by first | exact HY.out | exact HY.out.alloc _ | exact (HY.out.alloc _).alloc _)); have y0 := HY.out.cell 0; have y1 := HY.out.cell 1; have y2 := HY.out.cell 2); have HK := hidden hK10; clear hP10 hK10) | (refine stepD (x := x) (y := ⟨M, x.kind, x.name, x.value, F⟩) rfl _ _ rfl rfl rfl (by first | exact HP.out | exact HP.out.on (below1 _ _) | exact HP.out.on (below2 _ _ _) | exact HP.out.on (below1d _ _) | exact HP.out.on (below2d _ _ _)) (by first | exact HM.out | exact HM.out.on (below1 _ _) | exact HM.out.on (below2 _ _ _) | exact HM.out.on (below1d _ _) | exact HM.out.on (below2d _ _ _)) (by first | exact Whole1.new _ _ _ | exact (Whole1.new _ _ _).alloc _ | exact new_plus _ _ _ _ | exact HK.out _ _ _ (by decide) (Whole1.new _ _ _) | exact HK.out _ _ _ (by decide) ((Whole1.new _ _ _).alloc _) | exact HK.out _ _ _ (by decide) (new_plus _ _ _ _)) few2 ?_; intro v10 w10 hP10 hK10 hM10; have HM := hidden hM10; have HP := hidden hP10; have HK := hidden hK10; clear hP10 hK10 hM10))
        all_goals
          go_wp2_with fail
          go_roundw
          case rel => exact ⟨k + 1, _, by go_num, by omega, by simp; omega, by rw [HGA.out]; simp; omega, by rw [HGA.out]; exact HP.out, HG1.out⟩
          case measure => simp [intOf]; omega
    · obtain rfl : n = k := by omega
      rw [List.take_of_length_le (by rw [H.out.len]; exact Nat.le_refl _)] at htw hg1
      go_wp2_with fail
      go_ret2
      exact ⟨_, _, ms, rfl, htw.out, hg1.out, hmk⟩
end Go.Proofs.YthncochjhbmceaaGreat

namespace Go.Proofs.YthncochjhbmceaaGreat.OpA18
set_option maxRecDepth 100000
open Go.RowKit Go.WideShapes

section
variable {H : Type} {enc : TypeId × Value → H} {W : World} {b : Nat}
instance : Inhabited Ask := ⟨⟨0, ⟨#[]⟩, ⟨#[]⟩⟩⟩
theorem opens_ask : Opens enc Tryz.prog W b 158 Ask.cells (fun x => x.name.size ≤ 140737488355328 ∧ x.value.size ≤ 140737488355328) := by
  intro fuel cs x h hf
  obtain ⟨n, hl, hp⟩ := open_ones Tryz.underlying158 (by kernel_rfl) (by kernel_rfl) h hf
  obtain ⟨u0, y0, c0, t0, f0⟩ := hp 0 _ rfl
  obtain ⟨u1, y1, c1, t1, f1⟩ := hp 1 _ rfl
  obtain ⟨u2, y2, c2, t2, f2⟩ := hp 2 _ rfl
  obtain ⟨s0, e0, _⟩ := opens_int (k := .i64) Tryz.underlying3 _ _ _ t0 f0
  obtain ⟨s1, e1, g1, _⟩ := opens_string Tryz.underlying9 _ _ _ t1 f1
  obtain ⟨s2, e2, g2, _⟩ := opens_string Tryz.underlying9 _ _ _ t2 f2
  simp only [List.cons.injEq, and_true] at e0 e1 e2
  subst e0 e1 e2
  match cs, hl with
  | [a, b, c], _ =>
    simp only [List.getElem?_cons_zero, List.getElem?_cons_succ, Option.some.injEq] at c0 c1 c2
    unfold reachBytes at g1 g2
    exact ⟨⟨s0, s1, s2⟩, by rw [c0, c1, c2]; rfl, by show s1.size ≤ _; omega, by show s2.size ≤ _; omega⟩
theorem open_asks {base : Nat} {v : Value} {d : DataW H} {ps : List MemPlace} (hv : Value.okWide Tryz.prog W .any base 35 v) (h : DataW.Trod enc Tryz.prog W 0 (fun _ => true) true 35 v d ps) (hF : Fits Tryz.prog W b 35 (d, ps)) :
    ∃ (A : Option Addr) (n c : Nat) (l : List Ask), v = .slice A n c ∧ AskF W A n l ∧ n ≤ b := by
  obtain ⟨s, rfl, ⟨h1, h2, h3⟩, h4, h5, hb⟩ := open_arg_slice (k := 3) (f := Ask.cells) Tryz.underlying35 (by kernel_rfl) (by decide) (fun _ => rfl) opens_ask hv h hF
  rw [show Tryz.prog.bytesOf 158 = 40 from by kernel_rfl] at h5
  unfold reachBytes at h5
  exact ⟨s.A, s.n, s.c, s.l, rfl, ⟨h3, h2, by omega, h4⟩, hb⟩
end
end Go.Proofs.YthncochjhbmceaaGreat.OpA18

namespace Go.Proofs.YthncochjhbmceaaGreat
set_option maxRecDepth 100000
open Go.RowKit Go.Shelf

structure KOwn (w0 w : World) (v : Value) (cs : List Kid) : Prop where
  row : w.ownsRow w0.heap.size 208 1 v cs.length (cs.map Kid.p)
  cur : ∀ x ∈ cs, IsCur w x.p x.E x.F
  apart : cs.Pairwise fun x y => ∀ k, ¬ (x.F k ∧ y.F k)
  off : ∀ x ∈ cs, ∀ k, x.F k → w0.heap.size ≤ k ∧ v.ownBlock ≠ some k
  below : Below w0.heap.size w0 w
section
variable {w0 w w' : World} {v v1 : Value} {cs : List Kid}
theorem KOwn.nil (w0 w : World) (hb : Below w0.heap.size w0 w) : KOwn w0 w (.slice none 0 0) [] := ⟨World.ownsRow_nil _ _ _ _, by simp, List.Pairwise.nil, by simp, hb⟩
theorem KOwn.on (h : KOwn w0 w v cs) (hb : Below w.heap.size w w') : KOwn w0 w' v cs :=
  ⟨own_below h.row hb (Nat.le_refl _), fun x hx => isCur_frame _ _ _ _ _ (h.cur x hx) hb.size fun k hk => hb.block k (isCur_old _ _ _ _ (h.cur x hx) k hk), h.apart, h.off, h.below.trans (hb.mono h.below.size)⟩
theorem KOwn.push {x : Kid} (h : KOwn w0 w v cs) (hx : IsCur w x.p x.E x.F) (hd : ∀ y ∈ cs, ∀ k, ¬ (y.F k ∧ x.F k)) (ho : ∀ k, x.F k → w0.heap.size ≤ k ∧ v.ownBlock ≠ some k)
    (hown : w'.ownsRow w0.heap.size 208 1 v1 (cs.length + 1) (cs.map Kid.p ++ [x.p])) (hg : w.grownBy w' v.ownBlock) (hat : v1.ownBlock = v.ownBlock ∨ v1.ownBlock = some w.heap.size) : KOwn w0 w' v1 (cs ++ [x]) := by
  have hall : ∀ y ∈ cs ++ [x], IsCur w y.p y.E y.F ∧ ∀ k, y.F k → w0.heap.size ≤ k ∧ v.ownBlock ≠ some k := fun y hy => by
    rcases List.mem_append.1 hy with hy | hy
    · exact ⟨h.cur y hy, h.off y hy⟩
    · rw [List.mem_singleton.1 hy]; exact ⟨hx, ho⟩
  refine ⟨by simpa using hown, fun y hy => ?_, ?_, fun y hy k hk => ⟨((hall y hy).2 k hk).1, fun e => ?_⟩, h.below.grown hg h.below.size fun k hk => (h.row.lt k hk).1⟩
  · obtain ⟨h1, h2⟩ := hall y hy
    exact isCur_frame _ _ _ _ _ h1 hg.size fun k hk => hg.block k (isCur_old _ _ _ _ h1 k hk) fun e => (h2 k hk).2 e.symm
  · refine List.pairwise_append.2 ⟨h.apart, List.pairwise_singleton _ _, fun a ha b hb => ?_⟩
    rw [List.mem_singleton.1 hb]
    exact hd a ha
  · obtain ⟨h1, h2⟩ := hall y hy
    rcases hat with hat | hat
    · rw [hat] at e; exact (h2 k hk).2 e
    · rw [hat] at e
      have := isCur_old _ _ _ _ h1 k hk
      have : w.heap.size = k := Option.some.inj e
      omega
theorem KOwn.kids (h : KOwn w0 w v cs) (hf : cs.length * 8 ≤ 140737488351232) : ∃ A c, v = .slice A cs.length c ∧ KidRow w A cs.length cs := by
  obtain ⟨A, c, rfl, _, hr⟩ := own_shape h.row
  exact ⟨A, c, rfl, hr, rfl, hf, h.cur, h.apart⟩
end
end Go.Proofs.YthncochjhbmceaaGreat

namespace Go.Proofs.YthncochjhbmceaaGreat
set_option maxRecDepth 100000
open Go.RowKit

/-! plain -/
theorem nodup_len {α : Type} {a b : List α} (h : a.Nodup) (hs : ∀ x ∈ a, x ∈ b) : a.length ≤ b.length := by
  induction a generalizing b with
  | nil => simp
  | cons e E ih =>
    obtain ⟨h1, h2⟩ := List.nodup_cons.1 h
    obtain ⟨l1, l2, rfl⟩ := List.append_of_mem (hs e (by simp))
    have := ih (b := l1 ++ l2) h2 fun x hx => by
      rcases List.mem_append.1 (hs x (by simp [hx])) with hx2 | hx2
      · exact List.mem_append_left _ hx2
      · rcases List.mem_cons.1 hx2 with e | hx2
        · exact absurd (e ▸ hx) h1
        · exact List.mem_append_right _ hx2
    simp only [List.length_append, List.length_cons] at this ⊢
    omega
theorem valid_fits {l : List Lbl} (h : validP l) : ∀ x ∈ l, fitN x.name = true ∧ fitV x.value = true := make_fits (makeErr_ok h.1).2.2
theorem valid_apart {l : List Lbl} (h : validP l) : l.Pairwise fun x y => x.name ≠ y.name := h.2.imp fun {x y} k e => by
  unfold ltN at k
  have := (tri_B.zero x.name y.name).2 e
  omega
/-- what a set has at a name is what stands there -/
theorem getL_mem {l : List Lbl} (h : l.Pairwise fun x y => x.name ≠ y.name) {x : Lbl} (hx : x ∈ l) : getL l x.name = x.value := by
  obtain ⟨k, hk, rfl⟩ := List.mem_iff_getElem.1 hx
  refine getL_here (k := k) (fun y hy => ?_) (List.getElem?_eq_getElem hk) rfl
  obtain ⟨j, hj, rfl⟩ := List.mem_iff_getElem.1 hy
  rw [List.length_take] at hj
  rw [List.getElem_take]
  exact List.pairwise_iff_getElem.1 h j k (by omega) hk (by omega)
theorem getL_some : ∀ {l : List Lbl} {nm : ByteArray}, (getL l nm).toList ≠ [] → (⟨nm, getL l nm⟩ : Lbl) ∈ l
  | [], nm, h => by simp [getL] at h
  | x :: l, nm, h => by
    rw [getL] at h ⊢
    split
    · rename_i e
      rw [if_pos e] at h
      rw [← e]
      exact List.mem_cons_self ..
    · rename_i e
      rw [if_neg e] at h
      exact List.mem_cons_of_mem _ (getL_some h)
theorem fitV_some {v : ByteArray} (h : fitV v = true) : v.toList ≠ [] := fun e => by
  have h1 : 1 ≤ v.size ∧ v.size ≤ 64 := by simpa [fitV] using h
  rw [Lib.toList_data] at e
  have : v.data.toList.length = v.size := rfl
  rw [e] at this
  simp at this
  omega
theorem valid_has {l : List Lbl} (h : validP l) {nm v : ByteArray} : (⟨nm, v⟩ : Lbl) ∈ l ↔ getL l nm = v ∧ v.toList ≠ [] := by
  constructor
  · intro hm
    exact ⟨getL_mem (valid_apart h) hm, fitV_some (valid_fits h _ hm).2⟩
  · rintro ⟨rfl, h2⟩
    exact getL_some h2
theorem mem_flatE {E : List (List Lbl)} {y : Int × Lbl} : y ∈ flatE E ↔ ∃ (i : Nat) (l : List Lbl), E[i]? = some l ∧ y.1 = (i : Int) ∧ y.2 ∈ l := by
  unfold flatE
  rw [List.mem_flatMap]
  constructor
  · rintro ⟨p, hp, hy⟩
    obtain ⟨x, hx, rfl⟩ := List.mem_map.1 hy
    exact ⟨p.2, p.1, by have := List.mem_zipIdx_iff_getElem?.1 hp; exact this, rfl, hx⟩
  · rintro ⟨i, l, h1, h2, h3⟩
    exact ⟨(l, i), List.mem_zipIdx_iff_getElem?.2 h1, List.mem_map.2 ⟨y.2, h3, by rw [← h2]⟩⟩
end Go.Proofs.YthncochjhbmceaaGreat

namespace Go.Proofs.YthncochjhbmceaaGreat
set_option maxRecDepth 100000
open Go.RowKit Go.Shelf

/-- the sets that fit -/
def fitE (E : List (List Lbl)) (nm : ByteArray) (F : ByteArray → Bool) (z : Int) : Prop := ∃ (i : Nat) (l : List Lbl), E[i]? = some l ∧ z = (i : Int) ∧ F (getL l nm) = true
/-- the sets that have a value of this name of which this holds -/
def hasW (E : List (List Lbl)) (nm : ByteArray) (P : ByteArray → Prop) (z : Int) : Prop := ∃ (i : Nat) (l : List Lbl), E[i]? = some l ∧ z = (i : Int) ∧ (getL l nm).toList ≠ [] ∧ P (getL l nm)
theorem empty_of {v : ByteArray} (h : v.toList = []) : v = ⟨#[]⟩ := bytes_eq (by rw [Lib.toList_data] at h; exact h)
theorem fit_true {E : List (List Lbl)} {nm : ByteArray} {F : ByteArray → Bool} (h0 : F ⟨#[]⟩ = true) (z : Int) : fitE E nm F z ↔ z ∈ upL E.length ∧ ¬ hasW E nm (fun v => F v ≠ true) z := by
  constructor
  · rintro ⟨i, l, h1, rfl, h3⟩
    refine ⟨mem_upL.2 ⟨by omega, by have := (List.getElem?_eq_some_iff.1 h1).1; omega⟩, ?_⟩
    rintro ⟨j, l', k1, e, _, k3⟩
    obtain rfl : i = j := by omega
    rw [h1] at k1
    obtain rfl := Option.some.inj k1
    exact k3 h3
  · rintro ⟨h1, h2⟩
    obtain ⟨a, b⟩ := mem_upL.1 h1
    have hi : z.toNat < E.length := by omega
    refine ⟨z.toNat, E[z.toNat], List.getElem?_eq_getElem hi, by omega, ?_⟩
    by_cases e : (getL E[z.toNat] nm).toList = []
    · rw [empty_of e]; exact h0
    · by_cases hf : F (getL E[z.toNat] nm) = true
      · exact hf
      · exact absurd ⟨z.toNat, E[z.toNat], List.getElem?_eq_getElem hi, by omega, e, hf⟩ h2
theorem fit_false {E : List (List Lbl)} {nm : ByteArray} {F : ByteArray → Bool} (h0 : F ⟨#[]⟩ = false) (z : Int) : fitE E nm F z ↔ hasW E nm (fun v => F v ≠ false) z := by
  constructor
  · rintro ⟨i, l, h1, rfl, h3⟩
    refine ⟨i, l, h1, rfl, fun e => ?_, show F (getL l nm) ≠ false by rw [h3]; simp⟩
    rw [empty_of e, h0] at h3
    cases h3
  · rintro ⟨i, l, h1, rfl, _, h3⟩
    exact ⟨i, l, h1, rfl, by simpa using h3⟩
theorem mem_ixs {G : List (Int × Lbl)} {x : Lbl} {z : Int} : z ∈ ixs G x ↔ ∃ y ∈ G, y.2 = x ∧ y.1 = z := by
  unfold ixs
  rw [List.mem_map]
  constructor
  · rintro ⟨y, hy, rfl⟩
    obtain ⟨h1, h2⟩ := List.mem_filter.1 hy
    exact ⟨y, h1, by simpa using h2, rfl⟩
  · rintro ⟨y, hy, rfl, rfl⟩
    exact ⟨y, List.mem_filter.2 ⟨hy, by simp⟩, rfl⟩
/-- what the name's map tells is what the sets have -/
theorem with_iff {w : World} {base : Nat} {oI : Nat → Option Lbl} {mi : List (Value × Value)} {E : List (List Lbl)} {nm : ByteArray} (h : Inner w base oI mi (flatE E) nm) (hv : ∀ l ∈ E, validP l) (P : ByteArray → Prop) (z : Int) :
    (∃ p ∈ mi, ∃ vl u, p = (Value.string vl, u) ∧ P vl ∧ z ∈ ixs (flatE E) ⟨nm, vl⟩) ↔ hasW E nm P z := by
  constructor
  · rintro ⟨p, _, vl, u, rfl, hP, hz⟩
    obtain ⟨y, hy, e, rfl⟩ := mem_ixs.1 hz
    obtain ⟨i, l, h1, h2, h3⟩ := mem_flatE.1 hy
    rw [e] at h3
    obtain ⟨h4, h5⟩ := (valid_has (hv l (List.mem_of_getElem? h1))).1 h3
    exact ⟨i, l, h1, h2, by rw [h4]; exact h5, by rw [h4]; exact hP⟩
  · rintro ⟨i, l, h1, rfl, h3, h4⟩
    have hm : (⟨nm, getL l nm⟩ : Lbl) ∈ l := (valid_has (hv l (List.mem_of_getElem? h1))).2 ⟨rfl, h3⟩
    have hy : ((i : Int), (⟨nm, getL l nm⟩ : Lbl)) ∈ flatE E := mem_flatE.2 ⟨i, l, h1, rfl, hm⟩
    cases hat : atV mi (.string (getL l nm)) with
    | none => exact absurd rfl (h.miss _ hat _ hy)
    | some u => exact ⟨_, atV_mem _ _ _ hat, _, u, rfl, h4, mem_ixs.2 ⟨_, hy, rfl, rfl⟩⟩
/-- a name that no set has -/
theorem hasW_none {E : List (List Lbl)} {nm : ByteArray} (h : ∀ y ∈ flatE E, y.2.name ≠ nm) (P : ByteArray → Prop) (z : Int) : ¬ hasW E nm P z := by
  rintro ⟨i, l, h1, rfl, h3, _⟩
  exact h ((i : Int), ⟨nm, getL l nm⟩) (mem_flatE.2 ⟨i, l, h1, rfl, getL_some h3⟩) rfl
/-- each value of a name is small, its numbers are those of the sets -/
theorem inner_small {w : World} {base : Nat} {oI : Nat → Option Lbl} {mi : List (Value × Value)} {E : List (List Lbl)} {nm vl : ByteArray} {u : Value} (h : Inner w base oI mi (flatE E) nm) (hv : ∀ l ∈ E, validP l) (hu : atV mi (.string vl) = some u) (hE : E.length ≤ 1048576) :
    vl.size ≤ 140737488355328 ∧ (∀ x ∈ ixs (flatE E) ⟨nm, vl⟩, inI x) ∧ (ixs (flatE E) ⟨nm, vl⟩).length ≤ 8 * 1048576 := by
  obtain ⟨⟨y, hy, e⟩, _, _⟩ := h.hit vl u hu
  refine ⟨?_, fun x hx => ?_, ?_⟩
  · obtain ⟨i, l, h1, _, h3⟩ := mem_flatE.1 hy
    rw [e] at h3
    have := (valid_small (hv l (List.mem_of_getElem? h1))).2 _ h3
    simp only at this
    omega
  · obtain ⟨y, hy, _, rfl⟩ := mem_ixs.1 hx
    obtain ⟨i, l, h1, h2, _⟩ := mem_flatE.1 hy
    have := (List.getElem?_eq_some_iff.1 h1).1
    unfold inI
    omega
  · have := ixs_len (flatE E) ⟨nm, vl⟩
    have h2 : (flatE E).length ≤ 8 * E.length := flatE_len E fun l hl => (valid_small (hv l hl)).1
    omega
theorem strs_lenE {m : List (Value × Value)} (hn : (m.map (·.1)).Nodup) (hS : ∀ p ∈ m, IsStr p.1) {b : List ByteArray} (h : ∀ s, atV m (.string s) ≠ none → s ∈ b) : m.length ≤ b.length := by
  have := nodup_len (b := b.map Value.string) hn fun x hx => by
    obtain ⟨p, hp, rfl⟩ := List.mem_map.1 hx
    obtain ⟨s, hs⟩ := hS p hp
    have h0 : atV m (.string s) ≠ none := fun h0 => (atV_none _ _).1 h0 p hp hs
    rw [hs]
    exact List.mem_map.2 ⟨s, h s h0, rfl⟩
  simpa using this
theorem KOwn.old {w0 w : World} {v : Value} {cs : List Kid} (h : KOwn w0 w v cs) : ∀ x ∈ cs, ∀ k, x.F k → k < w.heap.size := fun x hx => isCur_old _ _ _ _ (h.cur x hx)
theorem KOwn.gOf {w0 w : World} {v : Value} {cs : List Kid} (h : KOwn w0 w v cs) : ∀ k, gOf cs k → w0.heap.size ≤ k := fun k ⟨x, hx, hk⟩ => (h.off x hx k hk).1
/-- a fresh cursor was appended to the row -/
theorem KOwn.add {w0 w w1 w2 : World} {v v1 : Value} {cs : List Kid} {a : Option Addr} {S : List Int} {F : Nat → Prop} (h : KOwn w0 w v cs) (hF : FC w w1 (.pointer a) S F)
    (hown : w2.ownsRow w0.heap.size 208 1 v1 (cs.length + 1) (cs.map Kid.p ++ [.pointer a])) (hg : (w1.alloc (.cells #[.pointer a] 208)).grownBy w2 v.ownBlock) (hat : v1.ownBlock = v.ownBlock ∨ v1.ownBlock = some (w1.alloc (.cells #[.pointer a] 208)).heap.size) : KOwn w0 w2 v1 (cs ++ [⟨.pointer a, S, F⟩]) := by
  obtain ⟨h1, h2, h3⟩ := hF
  have hb : Below w.heap.size w (w1.alloc (.cells #[.pointer a] 208)) := h3.alloc h3.size _
  have hs := h.below.size
  refine (h.on hb).push (x := ⟨.pointer a, S, F⟩) (isCur_on h1 ((Below.refl _ _).alloc (Nat.le_refl _) _)) (fun y hy k ⟨hk, hk2⟩ => ?_) (fun k hk => ⟨?_, fun e => ?_⟩) hown hg hat
  · have := h.old y hy k hk; have := h2 k hk2; omega
  · have := h2 k hk; omega
  · have := (h.row.lt k e).2; have := h2 k hk; omega
/-- a map's iterator is no row -/
theorem RangeV.on {S : Value → Prop} {w w' : World} {b r : Nat} {m come : List (Value × Value)} (h : RangeV S w b r m come) (hb : Below w.heap.size w w') : RangeV S w' b r m come := h.kept (hb.block b h.map.lt) (hb.block r h.lt)
theorem RangeV.grown {S : Value → Prop} {w w' : World} {b r : Nat} {m come : List (Value × Value)} (h : RangeV S w b r m come) {base size n : Nat} {T : TypeId} {v : Value} {xs : List Value} (ho : w.ownsRow base T size v n xs) (hg : w.grownBy w' v.ownBlock) : RangeV S w' b r m come := by
  have key : ∀ k, k < w.heap.size → (∀ cs, w.heap[k]? ≠ some (.cells cs T (0, 0))) → w'.heap[k]? = w.heap[k]? := fun k hk hne => by
    refine hg.block k hk fun e => ?_
    rcases ho.2 with ⟨h1, _⟩ | ⟨g, cap, cur, h1, h2, h3, _⟩
    · rw [h1] at e; cases e
    · rw [h1] at e
      have e : k = g := Option.some.inj e
      subst e
      exact hne _ h3
  have hm := h.map.lt
  have hr := h.lt
  obtain ⟨es, clock, since, seen, c0, h1, h2, h3, h4, h5, rest⟩ := h
  refine RangeV.kept ⟨es, clock, since, seen, c0, h1, h2, h3, h4, h5, rest⟩ (key b hm fun cs e => ?_) (key r hr fun cs e => ?_)
  · rw [h1] at e; cases e
  · rw [h5] at e; cases e
/-- an iterator went on: the row stays -/
theorem KOwn.iter {w0 w w' : World} {v : Value} {cs : List Kid} {r b : Nat} {m come : List (Value × Value)} {S : Value → Prop} (h : KOwn w0 w v cs) (hr : RangeV S w b r m come) (hg : w.grownBy w' (some r)) (h0 : w0.heap.size ≤ r) (hF : ∀ y ∈ cs, ¬ y.F r) : KOwn w0 w' v cs := by
  have hne : v.ownBlock = none ∨ v.ownBlock ≠ some r := by
    refine .inr fun e => ?_
    obtain ⟨es, clock, since, seen, c0, _, _, _, _, h5, _⟩ := hr
    rcases h.row.2 with ⟨h1, _⟩ | ⟨g, cap, cur, h1, h2, h3, _⟩
    · rw [h1] at e; cases e
    · rw [h1] at e
      have e : g = r := Option.some.inj e
      subst e
      rw [show w.heap[g]? = some (.cells cur _ (0, 0)) from h3] at h5
      cases h5
  exact ⟨h.row.kept hg hne, fun y hy => isCur_frame _ _ _ _ _ (h.cur y hy) hg.size fun k hk => hg.block k (h.old y hy k hk) fun e => hF y hy (by cases e; exact hk), h.apart, h.off, h.below.grown hg h.below.size fun k e => by cases e; exact h0⟩
/-- one of them or another -/
theorem orE_fit {w0 wz : World} {v : Value} {cs : List Kid} {Q : Int → Prop} (h : KOwn w0 wz v cs) (hf : cs.length ≤ 1099511627776) (hm : ∀ z, (∃ y ∈ cs, z ∈ y.E) ↔ Q z) :
    ∃ A c, v = .slice A cs.length c ∧ Calls Tryz.prog 125 #[.slice A cs.length c] wz (FCR w0 fun S => ∀ z, z ∈ S ↔ Q z) := by
  obtain ⟨A, c, rfl, hk⟩ := h.kids (by omega)
  refine ⟨A, c, rfl, (or_any A cs.length c cs wz hk).mono fun e w' hN => ?_⟩
  obtain ⟨a, S, F, r1, r2, r3⟩ := fcr_new hN h.gOf h.below
  exact ⟨a, S, F, r1, r2, fun z => (r3 z).trans (hm z)⟩
end Go.Proofs.YthncochjhbmceaaGreat
