/- The document's reading of a pattern, and its matchers: walked. Condition: the texts are no longer than memory. Matchers that are asked for: how they lie, which are such. No program is walked here. What is asked for, made matchers: the law's own list and the document's, walked. Condition: the texts are no longer than memory. A law's arguments, opened. No condition. A text that came in, with its bulk. Condition: it can be read as data. -/
import Derived.Test.YtbijjjhfekkfaaaGreatPka8861698
import Derived.Test.YtbijjjhfekkfaaaGreatPk9c512980
import Derived.Test.YtbijjjhfekkfaaaGreatPk33371d00
import Derived.Test.YtbijjjhfekkfaaaGreatPkb7e50c61
import Derived.Test.YtbijjjhfekkfaaaGreatPkc6c90f11
import Derived.Test.YtbijjjhfekkfaaaGreatPk62253690
import Derived.Lib.SmallJoins
namespace Go.Proofs.YtbijjjhfekkfaaaGreat
set_option maxRecDepth 100000
open Go.RowKit

/-- an error's number, or 0 -/
def errN {α : Type} : PR α → Nat
  | .bad e => e
  | .ok _ _ => 0
set_option maxHeartbeats 1600000 in
theorem rparse_any (s : ByteArray) (w : World) (hs : s.size ≤ 140737488355328) :
    Calls Tryz.prog 126 #[.string s] w fun x w' => (∃ p, x = .returned (.tuple #[p, .int .i64 ((errN (parseP s.data.toList) : Nat) : Int)])) ∧ Below w.heap.size w w' := by
  have hsl : s.data.toList.length = s.size := rfl
  by_cases h64 : 64 < s.size
  · have eP : parseP s.data.toList = .bad 60 := if_pos (by omega)
    have h64' : (64 : Int) < (s.size : Int) := by omega
    have HE := hidden (show errN (parseP s.data.toList) = 60 by rw [eP]; rfl)
    clear eP
    go_enter Tryz.func126, Tryz.ntmps126
    go_wp2_with fail
    go_ret2
    rw [HE.out]
    exact ⟨⟨_, rfl⟩, Below.refl _ _⟩
  · have eP : parseP s.data.toList = depthP s.data.toList 16 0 := if_neg (by omega)
    have h64' : ¬ (64 : Int) < (s.size : Int) := by omega
    have HE := hidden eP
    clear eP hsl
    go_enter Tryz.func126, Tryz.ntmps126
    go_wp2_with fail
    obtain ⟨w1, hw1⟩ : ∃ w1, w.alloc (.cells #[.slice none 0 0, .string s, .int .i64 0, .int .i64 0, .int .i64 0] 347) = w1 := ⟨_, rfl⟩
    obtain ⟨T, hT⟩ : ∃ T, w.heap.size = T := ⟨_, rfl⟩
    have HB1 := hidden (show Below w.heap.size w w1 from hw1 ▸ (Below.refl _ _).alloc (Nat.le_refl _) _)
    have HT1 := hidden (show TrV w1 T T (.slice none 0 0) s 0 0 0 0 from by
      rw [← hw1, ← hT]
      exact ⟨Whole1.new _ _ _, ⟨[], World.ownsRow_nil _ _ _ _⟩, Nat.le_refl _, by simp⟩)
    have S1 := hidden (rbrs_all 16 T T _ s 0 0 0 w1 HT1.out rfl (by omega) (by omega) (by omega))
    have HTT := hidden hT
    rw [hw1, hT]
    clear hw1 hT HT1
    refine S1.out.mono ?_
    rintro e w2 ⟨nv, k, i, f, rfl, t2, u2, hk, hk', hi, hi', hf, r2⟩
    have HB2 := hidden (show Below w.heap.size w w2 from HB1.out.trans (u2.below (Nat.le_of_eq HTT.out) (by rw [HTT.out]; have := HB1.out.size; rw [HTT.out] at this; exact this)))
    have c4 := t2.blk.cell 4
    have c0 := t2.blk.cell 0
    obtain ⟨xs, ho⟩ := t2.own
    obtain ⟨A, c, rfl, _, _⟩ := own_shape ho
    have HR := hidden (show errN (parseP s.data.toList) = f from by
      rw [HE.out]
      rcases r2.2 rfl with ⟨t, j, e1, _, rfl⟩ | ⟨e, e1, rfl, _⟩
      · rw [e1]; rfl
      · rw [e1]; rfl)
    clear S1 t2 u2 r2 ho HB1 HE
    by_cases h0 : f = 0
    · subst h0
      have fwk : IntKind.i64.wrap (((k : Int) + 1) - 1) = (k : Int) := by
        rw [show ((k : Int) + 1) - 1 = (k : Int) from by omega]
        exact Go.IntWalk.i64_in _ (by omega)
      go_wp2_with fail
      go_ret2
      rw [HR.out]
      exact ⟨⟨_, rfl⟩, HB2.out⟩
    · have f0 : ((f : Int) != 0) = true := by simpa using h0
      have f1 : (f != 0) = true := by simpa using h0
      go_wp2_with fail
      go_quiet (fail)
      go_wp2_with fail
      go_ret2
      rw [HR.out]
      exact ⟨⟨_, rfl⟩, below_drewN HB2.out _⟩
/-- the document's error for a matcher -/
def newE (kind : Int) (name value : ByteArray) : Nat := if kind < 0 ∨ 3 < kind then 80 else if fitN name = false then 40 else if kind < 2 ∧ 64 < value.size then 41 else if 2 ≤ kind then errN (parseP value.data.toList) else 0
set_option maxHeartbeats 1600000 in
theorem rnew_any (kind : Int) (name value : ByteArray) (w : World) (hn : name.size ≤ 140737488355328) (hv : value.size ≤ 140737488355328) :
    Calls Tryz.prog 55 #[.int .i64 kind, .string name, .string value] w fun e w' => ∃ v, e = .returned (.tuple #[v, .int .i64 ((newE kind name value : Nat) : Int)]) ∧ (newE kind name value = 0 → v = .agg #[.int .i64 kind, .string name, .string value]) ∧ (∃ a b c, v = .agg #[.int .i64 a, .string b, .string c]) ∧ Below w.heap.size w w' := by
  obtain ⟨E, hE⟩ : ∃ E, newE kind name value = E := ⟨_, rfl⟩
  rw [hE]
  unfold newE at hE
  by_cases h1 : kind < 0
  · rw [if_pos (by omega)] at hE
    have HE := hidden hE
    clear hE
    go_enter Tryz.func55, Tryz.ntmps55
    go_wp2_with fail
    refine bodyPost_ret (v := .tuple #[.agg #[.int .i64 0, .string ⟨#[]⟩, .string ⟨#[]⟩], .int .i64 80]) (by simp [results, Tryz.results55, go_sem]) rfl ?_
    exact ⟨_, (by rw [← HE.out]; rfl), fun h => (by have := HE.out; omega), ⟨_, _, _, rfl⟩, (Below.refl _ _).alloc (Nat.le_refl _) _⟩
  · by_cases h2 : 3 < kind
    · rw [if_pos (by omega)] at hE
      have HE := hidden hE
      clear hE
      go_enter Tryz.func55, Tryz.ntmps55
      go_wp2_with fail
      refine bodyPost_ret (v := .tuple #[.agg #[.int .i64 0, .string ⟨#[]⟩, .string ⟨#[]⟩], .int .i64 80]) (by simp [results, Tryz.results55, go_sem]) rfl ?_
      exact ⟨_, (by rw [← HE.out]; rfl), fun h => (by have := HE.out; omega), ⟨_, _, _, rfl⟩, (Below.refl _ _).alloc (Nat.le_refl _) _⟩
    · rw [if_neg (by omega)] at hE
      have SF := hidden (fun w => rfitName_any name w (by omega))
      cases hf : fitN name with
      | false =>
        rw [if_pos hf] at hE
        have HE := hidden hE
        rw [hf] at SF
        clear hE hf
        go_enter Tryz.func55, Tryz.ntmps55
        go_wp2_with fail
        refine (SF.out _).mono ?_
        rintro e w1 ⟨rfl, rfl⟩
        clear SF
        go_wp2_with fail
        refine bodyPost_ret (v := .tuple #[.agg #[.int .i64 0, .string ⟨#[]⟩, .string ⟨#[]⟩], .int .i64 40]) (by simp [results, Tryz.results55, go_sem]) rfl ?_
        exact ⟨_, (by rw [← HE.out]; rfl), fun h => (by have := HE.out; omega), ⟨_, _, _, rfl⟩, (Below.refl _ _).alloc (Nat.le_refl _) _⟩
      | true =>
        rw [if_neg (by rw [hf]; simp)] at hE
        rw [hf] at SF
        clear hf
        by_cases h3 : kind < 2
        · by_cases h4 : 64 < value.size
          · rw [if_pos ⟨h3, h4⟩] at hE
            have HE := hidden hE
            have h4' : (64 : Int) < (value.size : Int) := by omega
            clear hE
            go_enter Tryz.func55, Tryz.ntmps55
            go_wp2_with fail
            refine (SF.out _).mono ?_
            rintro e w1 ⟨rfl, rfl⟩
            clear SF
            go_wp2_with fail
            refine bodyPost_ret (v := .tuple #[.agg #[.int .i64 0, .string ⟨#[]⟩, .string ⟨#[]⟩], .int .i64 41]) (by simp [results, Tryz.results55, go_sem]) rfl ?_
            exact ⟨_, (by rw [← HE.out]; rfl), fun h => (by have := HE.out; omega), ⟨_, _, _, rfl⟩, (Below.refl _ _).alloc (Nat.le_refl _) _⟩
          · rw [if_neg (fun h => h4 h.2), if_neg (by omega)] at hE
            have HE := hidden hE
            have h4' : ¬ (64 : Int) < (value.size : Int) := by omega
            have h3' : ¬ (2 : Int) ≤ kind := by omega
            clear hE
            go_enter Tryz.func55, Tryz.ntmps55
            go_wp2_with fail
            refine (SF.out _).mono ?_
            rintro e w1 ⟨rfl, rfl⟩
            clear SF
            go_wp2_with fail
            refine bodyPost_ret (v := .tuple #[.agg #[.int .i64 kind, .string name, .string value], .int .i64 0]) (by simp [results, Tryz.results55, go_sem]) rfl ?_
            exact ⟨_, (by rw [← HE.out]; rfl), fun _ => rfl, ⟨_, _, _, rfl⟩, (Below.refl _ _).alloc (Nat.le_refl _) _⟩
        · rw [if_neg (fun h => h3 h.1), if_pos (by omega)] at hE
          have HE := hidden hE
          have h3' : (2 : Int) ≤ kind := by omega
          have SP := hidden (fun w => rparse_any value w hv)
          rw [hE] at SP
          clear hE
          go_enter Tryz.func55, Tryz.ntmps55
          go_wp2_with fail
          refine (SF.out _).mono ?_
          rintro e w1 ⟨rfl, rfl⟩
          clear SF
          go_wp2_with fail
          refine (SP.out _).mono ?_
          rintro e w2 ⟨⟨p, rfl⟩, hb⟩
          obtain ⟨R, hR⟩ : ∃ R, w.heap.size = R := ⟨_, rfl⟩
          have hw2 := (Whole1.new w 142 #[.int .i64 0, .string ⟨#[]⟩, .string ⟨#[]⟩]).below hb (by simp)
          have HB := hidden (show Below w.heap.size w w2 from ((Below.refl w.heap.size w).alloc (Nat.le_refl _) _).trans (hb.mono (by simp)))
          rw [hR] at hw2 ⊢
          have HW := hidden hw2
          have HR := hidden hR
          have c0 := hw2.cell 0
          have c1 := hw2.cell 1
          have c2 := hw2.cell 2
          have g0 := hw2.free 0
          have g1 := hw2.free 1
          have g2 := hw2.free 2
          clear hw2 hb hR SP
          have HPB := hidden (fun (a b c : Value) => show Below w.heap.size w (((w2.setCell ⟨R, 0, none⟩ a).setCell ⟨R, 1, none⟩ b).setCell ⟨R, 2, none⟩ c) from by
            have hg : w.heap.size ≤ R := Nat.le_of_eq HR.out
            exact ((HB.out.setCell (p := ⟨R, 0, none⟩) hg a).setCell (p := ⟨R, 1, none⟩) hg b).setCell (p := ⟨R, 2, none⟩) hg c)
          have HPW := hidden (fun (a b c : Value) => show Whole1 (((w2.setCell ⟨R, 0, none⟩ a).setCell ⟨R, 1, none⟩ b).setCell ⟨R, 2, none⟩ c) R 142 #[a, b, c] from ((HW.out.put 0 _).put 1 _).put 2 _)
          by_cases h0 : E = 0
          · subst h0
            go_wp2_with fail
            have x0 := (HPW.out (.int .i64 kind) (.string name) (.string value)).cell 0
            have x1 := (HPW.out (.int .i64 kind) (.string name) (.string value)).cell 1
            have x2 := (HPW.out (.int .i64 kind) (.string name) (.string value)).cell 2
            have HXB := hidden (HPB.out (.int .i64 kind) (.string name) (.string value))
            generalize ((w2.setCell ⟨R, 0, none⟩ (.int .i64 kind)).setCell ⟨R, 1, none⟩ (.string name)).setCell ⟨R, 2, none⟩ (.string value) = w9 at *
            refine bodyPost_ret (v := .tuple #[.agg #[.int .i64 kind, .string name, .string value], .int .i64 0]) (by simp [results, Tryz.results55, go_sem, x0, x1, x2]) rfl ?_
            exact ⟨_, rfl, rfl, ⟨_, _, _, rfl⟩, HXB.out⟩
          · have f0 : ((E : Int) != 0) = true := by simpa using h0
            have f1 : (E != 0) = true := by simpa using h0
            go_wp2_with fail
            have x0 := (HPW.out (.int .i64 0) (.string ⟨#[]⟩) (.string ⟨#[]⟩)).cell 0
            have x1 := (HPW.out (.int .i64 0) (.string ⟨#[]⟩) (.string ⟨#[]⟩)).cell 1
            have x2 := (HPW.out (.int .i64 0) (.string ⟨#[]⟩) (.string ⟨#[]⟩)).cell 2
            have HXB := hidden (HPB.out (.int .i64 0) (.string ⟨#[]⟩) (.string ⟨#[]⟩))
            generalize ((w2.setCell ⟨R, 0, none⟩ (.int .i64 0)).setCell ⟨R, 1, none⟩ (.string ⟨#[]⟩)).setCell ⟨R, 2, none⟩ (.string ⟨#[]⟩) = w9 at *
            refine bodyPost_ret (v := .tuple #[.agg #[.int .i64 0, .string ⟨#[]⟩, .string ⟨#[]⟩], .int .i64 (E : Int)]) (by simp [results, Tryz.results55, go_sem, x0, x1, x2]) rfl ?_
            exact ⟨_, rfl, fun h => absurd h h0, ⟨_, _, _, rfl⟩, HXB.out⟩
end Go.Proofs.YtbijjjhfekkfaaaGreat

namespace Go.Proofs.YtbijjjhfekkfaaaGreat
set_option maxRecDepth 100000
open Go.RowKit Go.WideShapes Go.ChangeShapes

/-- a matcher's parts, as they lie -/
structure Ask where
  kind : Int
  name : ByteArray
  value : ByteArray
def Ask.cells (x : Ask) : List Value := [.int .i64 x.kind, .string x.name, .string x.value]
structure AskF (w : World) (A : Option Addr) (n : Nat) (l : List Ask) : Prop where
  row : Row w w.heap.size 3 A n (l.flatMap Ask.cells)
  len : l.length = n
  few : n ≤ 3518437208883
  sz : ∀ x ∈ l, x.name.size ≤ 140737488355328 ∧ x.value.size ≤ 140737488355328
theorem AskF.on {w w' : World} {A : Option Addr} {n : Nat} {l : List Ask} (h : AskF w A n l) (hb : Below w.heap.size w w') : AskF w' A n l := ⟨(h.row.below hb).more hb.size, h.len, h.few, h.sz⟩
theorem ask_cells {w : World} {A : Option Addr} {n : Nat} {l : List Ask} (h : AskF w A n l) {k : Nat} (hk : k < n) : ∃ g o x, A = some ⟨g, o, none⟩ ∧ g < w.heap.size ∧ l[k]? = some x ∧ w.cell? ⟨g, o + k * 3, none⟩ = some (.int .i64 x.kind) ∧ w.cell? ⟨g, o + k * 3 + 1, none⟩ = some (.string x.name) ∧ w.cell? ⟨g, o + k * 3 + 2, none⟩ = some (.string x.value) ∧ x ∈ l := by
  obtain ⟨g, o, x, hA, hg, hx, hc⟩ := row_at (enc := Ask.cells) (k := 3) (fun _ => rfl) h.row h.len k hk
  exact ⟨g, o, x, hA, hg, hx, hc 0 (by omega), hc 1 (by omega), hc 2 (by omega), List.mem_of_getElem? hx⟩
/-- those that are matchers: what they fit -/
def goodF (l : List Ask) : List (ByteArray × (ByteArray → Bool)) := l.filterMap fun x => match newF x.kind x.name x.value with
  | .ok F => some (x.name, F)
  | .error _ => none
def Mt.fit (x : Mt) : ByteArray × (ByteArray → Bool) := (x.name, x.F)
theorem allM_fit (l : List Lbl) (ms : List Mt) : allM l ms = (ms.map Mt.fit).all fun p => p.2 (getL l p.1) := by
  rw [allM, List.all_map]
  rfl
theorem infoM : (Tryz.prog.info? 30).map (fun i => (i.zero, i.size, i.bytes)) = some (some (.pointer none), 1, 8) := by kernel_rfl
/-- a row of matchers of the call's own -/
def OwnM (w : World) (B : Nat) (v : Value) (ms : List Mt) : Prop := w.ownsRow B 30 1 v ms.length (ms.map Mt.ptr) ∧ ∀ x ∈ ms, MatAt w x.M x.kind x.name x.value x.F
theorem OwnM.on {w w' : World} {B : Nat} {v : Value} {ms : List Mt} (h : OwnM w B v ms) (hb : Below w.heap.size w w') : OwnM w' B v ms := ⟨own_below h.1 hb (Nat.le_refl _), fun x hx => (h.2 x hx).on hb⟩
theorem OwnM.row {w : World} {B : Nat} {v : Value} {ms : List Mt} (h : OwnM w B v ms) : ∃ A c, v = .slice A ms.length c ∧ ms.length ≤ c ∧ MtRow w A ms.length ms := by
  obtain ⟨A, c, rfl, hc, hr⟩ := own_shape h.1
  exact ⟨A, c, rfl, hc, hr, rfl, h.2⟩

/-- what a growing row of pointers leaves as it is -/
theorem others_on {w w' : World} {B n : Nat} {v : Value} {xs : List Value} (ho : w.ownsRow B 30 1 v n xs) (hg : w.grownBy w' v.ownBlock) : ∀ g t cs, t ≠ 30 → Whole1 w g t cs → Whole1 w' g t cs := fun g t cs ht hw => by
  refine (hg.block g hw.lt fun e => ?_).trans hw
  rcases ho.2 with ⟨h1, _⟩ | ⟨k, cap, cur, h1, h2, h3, _⟩
  · rw [h1] at e; cases e
  · rw [h1] at e
    have e : g = k := Option.some.inj e
    subst e
    exact kinds_apart (show Whole1 w g 30 cur from h3) hw (Ne.symm ht) rfl
theorem fitB_others {w w' : World} (hs : ∀ g t cs, t ≠ 30 → Whole1 w g t cs → Whole1 w' g t cs) {fv : Value} {F : ByteArray → Bool} (h : FitB w fv F) : FitB w' fv F := by
  rcases h with ⟨bx, value, e, h1, h2⟩ | ⟨nb, p, t, e, h1, h2, h3⟩
  · exact .inl ⟨bx, value, e, hs _ _ _ (by decide) h1, h2⟩
  · exact .inr ⟨nb, p, t, e, hs _ _ _ (by decide) h1, isTr_nodes (fun g u cs hu h => hs _ _ _ (by rcases hu with rfl | rfl <;> decide) h) t p h2, h3⟩
theorem MatAt.others {w w' : World} (hs : ∀ g t cs, t ≠ 30 → Whole1 w g t cs → Whole1 w' g t cs) {M : Nat} {kind : Int} {name value : ByteArray} {F : ByteArray → Bool} (h : MatAt w M kind name value F) : MatAt w' M kind name value F := by
  obtain ⟨fv, h1, h2⟩ := h
  refine ⟨fv, hs _ _ _ (by decide) h1, ?_⟩
  rcases h2 with h2 | ⟨tb, fv0, F0, e, k1, k2, k3⟩
  · exact .inl (fitB_others hs h2)
  · exact .inr ⟨tb, fv0, F0, e, hs _ _ _ (by decide) k1, fitB_others hs k2, k3⟩
theorem goodF_ok {l : List Ask} {x : Ask} {F : ByteArray → Bool} (h : newF x.kind x.name x.value = .ok F) : goodF (l ++ [x]) = goodF l ++ [(x.name, F)] := by
  unfold goodF
  rw [List.filterMap_append]
  simp [h]
theorem goodF_bad {l : List Ask} {x : Ask} {c : Int} (h : newF x.kind x.name x.value = .error c) : goodF (l ++ [x]) = goodF l := by
  unfold goodF
  rw [List.filterMap_append]
  simp [h]
/-- two pointers in a block of their own -/
theorem own_pair (w : World) (B : Nat) (hB : B ≤ w.heap.size) (u v : Value) : (w.alloc (.cells #[u, v] 30)).ownsRow B 30 1 (.slice (some ⟨w.heap.size, 0, none⟩) 2 2) 2 [u, v] :=
  ⟨rfl, .inr ⟨w.heap.size, 2, #[u, v], rfl, hB, Whole1.new w _ _, Nat.le_refl _, by decide, rfl, rfl⟩⟩
/-- the program and the document agree on what is a matcher -/
theorem make_name (name : ByteArray) : makeErr [⟨name, ⟨#[120]⟩⟩] = 0 ↔ fitN name = true := by
  have h1 : makeErr [⟨name, ⟨#[120]⟩⟩] = errAt [⟨name, ⟨#[120]⟩⟩] 0 := rfl
  have h2 : fitV ⟨#[120]⟩ = true := by decide
  rw [h1, errAt]
  simp [h2]
theorem new_iff (kind : Int) (name value : ByteArray) : newE kind name value = 0 ↔ ∃ F, newF kind name value = .ok F := by
  unfold newE newF
  by_cases h1 : kind < 0 ∨ 3 < kind
  · rw [if_pos h1, if_pos h1]; simp
  rw [if_neg h1, if_neg h1]
  by_cases h2 : fitN name = true
  · have hm := (make_name name).2 h2
    rw [if_neg (show ¬ fitN name = false by rw [h2]; simp), if_neg (show ¬ makeErr [⟨name, ⟨#[120]⟩⟩] ≠ 0 by rw [hm]; simp)]
    by_cases h3 : kind ≤ 1
    · rw [if_pos h3]
      by_cases h4 : 64 < value.size
      · rw [if_pos (show kind < 2 ∧ 64 < value.size from ⟨by omega, h4⟩), if_pos h4]; simp
      · rw [if_neg (show ¬ (kind < 2 ∧ 64 < value.size) from fun h => h4 h.2), if_neg (show ¬ 2 ≤ kind by omega), if_neg h4]; simp
    · rw [if_neg (show ¬ (kind < 2 ∧ 64 < value.size) from fun h => h3 (by omega)), if_pos (show 2 ≤ kind by omega), if_neg h3]
      cases hp : parseP value.data.toList with
      | bad e =>
        have := nz_parse _ _ hp
        simp [errN, this]
      | ok t j => simp [errN]
  · have hm : makeErr [⟨name, ⟨#[120]⟩⟩] ≠ 0 := fun h => h2 ((make_name name).1 h)
    rw [if_pos (show fitN name = false by simpa using h2), if_pos hm]; simp
/-- those that are matchers -/
def goodA (l : List Ask) : List Ask := l.filter fun x => decide (newE x.kind x.name x.value = 0)
theorem goodA_ok {l : List Ask} {x : Ask} (h : newE x.kind x.name x.value = 0) : goodA (l ++ [x]) = goodA l ++ [x] := by
  unfold goodA
  rw [List.filter_append]
  simp [h]
theorem goodA_bad {l : List Ask} {x : Ask} (h : newE x.kind x.name x.value ≠ 0) : goodA (l ++ [x]) = goodA l := by
  unfold goodA
  rw [List.filter_append]
  simp [h]
end Go.Proofs.YtbijjjhfekkfaaaGreat

namespace Go.Proofs.YtbijjjhfekkfaaaGreat
set_option maxRecDepth 100000
open Go.RowKit

theorem infoW8 : (Tryz.prog.info? 142).map (fun i => (i.zero, i.size, i.bytes)) = some (some (.agg #[.int .i64 0, .string ⟨#[]⟩, .string ⟨#[]⟩]), 3, 40) := by kernel_rfl
/-- rows of two kinds are two rows -/
theorem own_apart {w : World} {B1 B2 n1 n2 s1 s2 : Nat} {T1 T2 : TypeId} {v1 v2 : Value} {xs ys : List Value} (h1 : w.ownsRow B1 T1 s1 v1 n1 xs) (h2 : w.ownsRow B2 T2 s2 v2 n2 ys) (hne : T1 ≠ T2) {g : Nat} (e1 : v1.ownBlock = some g) : v2.ownBlock ≠ some g := fun e2 => by
  rcases h1.2 with ⟨h, _⟩ | ⟨k, cap, cur, a1, a2, a3, _⟩
  · rw [h] at e1; cases e1
  rcases h2.2 with ⟨h, _⟩ | ⟨k', cap', cur', b1, b2, b3, _⟩
  · rw [h] at e2; cases e2
  rw [a1] at e1; rw [b1] at e2
  have e1 : k = g := Option.some.inj e1
  have e2 : k' = g := Option.some.inj e2
  subst e1
  subst e2
  exact kinds_apart (show Whole1 w k' T1 cur from a3) (show Whole1 w k' T2 cur' from b3) hne rfl
theorem own_kept {w w' : World} {B1 B2 n1 n2 s1 s2 : Nat} {T1 T2 : TypeId} {v1 v2 : Value} {xs ys : List Value} (h1 : w.ownsRow B1 T1 s1 v1 n1 xs) (h2 : w.ownsRow B2 T2 s2 v2 n2 ys) (hne : T1 ≠ T2) (hg : w.grownBy w' v1.ownBlock) : w'.ownsRow B2 T2 s2 v2 n2 ys := by
  refine h2.kept hg ?_
  cases hv : v1.ownBlock with
  | none =>
    cases hv2 : v2.ownBlock with
    | none => exact .inl rfl
    | some g => exact .inr (by simp)
  | some g =>
    cases hv2 : v2.ownBlock with
    | none => exact .inl rfl
    | some k => exact .inr fun e => own_apart h1 h2 hne hv (by rw [hv2, ← e])
/-- what a growing row leaves as it is -/
theorem kinds_on {w w' : World} {B n s : Nat} {T : TypeId} {v : Value} {xs : List Value} (ho : w.ownsRow B T s v n xs) (hg : w.grownBy w' v.ownBlock) : ∀ g t cs, t ≠ T → Whole1 w g t cs → Whole1 w' g t cs := fun g t cs ht hw => by
  refine (hg.block g hw.lt fun e => ?_).trans hw
  rcases ho.2 with ⟨h1, _⟩ | ⟨k, cap, cur, h1, h2, h3, _⟩
  · rw [h1] at e; cases e
  · rw [h1] at e
    have e : g = k := Option.some.inj e
    subst e
    exact kinds_apart (show Whole1 w g T cur from h3) hw (Ne.symm ht) rfl
theorem fitB_kinds {w w' : World} (hs : ∀ g t cs, t ≠ 142 → Whole1 w g t cs → Whole1 w' g t cs) {fv : Value} {F : ByteArray → Bool} (h : FitB w fv F) : FitB w' fv F := by
  rcases h with ⟨bx, value, e, h1, h2⟩ | ⟨nb, p, t, e, h1, h2, h3⟩
  · exact .inl ⟨bx, value, e, hs _ _ _ (by decide) h1, h2⟩
  · exact .inr ⟨nb, p, t, e, hs _ _ _ (by decide) h1, isTr_nodes (fun g u cs hu h => hs _ _ _ (by rcases hu with rfl | rfl <;> decide) h) t p h2, h3⟩
theorem MatAt.kinds {w w' : World} (hs : ∀ g t cs, t ≠ 142 → Whole1 w g t cs → Whole1 w' g t cs) {M : Nat} {kind : Int} {name value : ByteArray} {F : ByteArray → Bool} (h : MatAt w M kind name value F) : MatAt w' M kind name value F := by
  obtain ⟨fv, h1, h2⟩ := h
  refine ⟨fv, hs _ _ _ (by decide) h1, ?_⟩
  rcases h2 with h2 | ⟨tb, fv0, F0, e, k1, k2, k3⟩
  · exact .inl (fitB_kinds hs h2)
  · exact .inr ⟨tb, fv0, F0, e, hs _ _ _ (by decide) k1, fitB_kinds hs k2, k3⟩
/-- both lists under way -/
structure Pr (w0 w : World) (vm vw : Value) (ms : List Mt) (ls : List Ask) : Prop where
  one : w.ownsRow w0.heap.size 30 1 vm ms.length (ms.map Mt.ptr)
  two : w.ownsRow w0.heap.size 142 3 vw ls.length (ls.flatMap Ask.cells)
  m1 : ∀ x ∈ ms, MatAt w x.M x.kind x.name x.value x.F
  below : Below w0.heap.size w0 w
section
variable {w0 w w' : World} {vm vw v1 : Value} {ms : List Mt} {ls : List Ask}
theorem Pr.on (h : Pr w0 w vm vw ms ls) (hb : Below w.heap.size w w') : Pr w0 w' vm vw ms ls :=
  ⟨own_below h.one hb (Nat.le_refl _), own_below h.two hb (Nat.le_refl _), fun x hx => (h.m1 x hx).on hb, h.below.trans (hb.mono h.below.size)⟩
theorem Pr.push1 {x : Mt} (h : Pr w0 w vm vw ms ls) (hx : MatAt w x.M x.kind x.name x.value x.F) (ho : w'.ownsRow w0.heap.size 30 1 v1 (ms.length + 1) (ms.map Mt.ptr ++ [x.ptr])) (hg : w.grownBy w' vm.ownBlock) : Pr w0 w' v1 vw (ms ++ [x]) ls := by
  have hs := others_on h.one hg
  refine ⟨by simpa using ho, own_kept h.one h.two (by decide) hg, fun y hy => ?_, h.below.grown hg h.below.size fun k hk => (h.one.lt k hk).1⟩
  rcases List.mem_append.1 hy with hy | hy
  · exact (h.m1 y hy).others hs
  · rw [List.mem_singleton.1 hy]; exact hx.others hs
theorem Pr.push2 {x : Ask} (h : Pr w0 w vm vw ms ls) (ho : w'.ownsRow w0.heap.size 142 3 v1 (ls.length + 1) (ls.flatMap Ask.cells ++ x.cells)) (hg : w.grownBy w' vw.ownBlock) : Pr w0 w' vm v1 ms (ls ++ [x]) :=
  ⟨own_kept h.two h.one (by decide) hg, by simpa using ho, fun y hy => (h.m1 y hy).kinds (kinds_on h.two hg), h.below.grown hg h.below.size fun k hk => (h.two.lt k hk).1⟩
end
section
variable {w0 wc : World} {vm vw : Value} {ms : List Mt} {ls : List Ask} {ops : Array Oper} {o : Oper} {a : Act} {K : Act → World → Prop} {Q : Exit → Act → World → Prop} {E : Prop}
theorem row_one {w : World} {g : Nat} {T : TypeId} {cs : Array Value} (h : Whole1 w g T cs) : Row w w.heap.size cs.size (some ⟨g, 0, none⟩) 1 cs.toList :=
  ⟨by simp, fun _ => ⟨g, 0, rfl, h.lt, fun j _ => by rw [h.cell, Nat.zero_add]; simp⟩⟩
theorem below1 (w : World) (x : Obj) : Below w.heap.size w (w.alloc x) := (Below.refl _ _).alloc (Nat.le_refl _) _
theorem below1d (w : World) (x : Obj) : Below w.heap.size w (w.alloc x).drew := (below1 w x).drew
theorem below2 (w : World) (x y : Obj) : Below w.heap.size w ((w.alloc x).alloc y) := (below1 w x).alloc (by simp) _
theorem below2d (w : World) (x y : Obj) : Below w.heap.size w ((w.alloc x).alloc y).drew := (below2 w x y).drew
theorem new_plus (w : World) (x : Obj) (T : TypeId) (cs : Array Value) : Whole1 ((w.alloc x).alloc (.cells cs T)) (w.heap.size + 1) T cs := by
  have := Whole1.new (w.alloc x) T cs
  rwa [World.size_alloc] at this
/-- a matcher more -/
theorem stepM {x : Mt} {g : Nat} (hg : o.guard = none) (s1 s2 : Operand) (ho : o.op = .call { callee := .builtin .append, args := #[s1, s2], argTypes := #[22, 22] })
    (hs : a.eval s1 = vm) (hx : a.eval s2 = .slice (some ⟨g, 0, none⟩) 1 1) (hP : Pr w0 wc vm vw ms ls) (hM : MatAt wc x.M x.kind x.name x.value x.F) (hr : Whole1 wc g 30 #[x.ptr]) (hfew : ms.length + 1 ≤ 3518437208883)
    (h : ∀ v' w', Pr w0 w' v' vw (ms ++ [x]) ls → (∀ g t cs, t ≠ 30 → Whole1 wc g t cs → Whole1 w' g t cs) → K (a.put o.dst v') w') :
    if Region.wanted o (yielded ops a.tmps) = true then Oper.wp Tryz.prog o a wc K Q else E := by
  obtain ⟨iM, hiM, hzM0, hzM1, hzM2⟩ := info_parts infoM
  refine step_appA (P := Tryz.prog) (ops := ops) (o := o) (a := a) (K := K) (Q := Q) (E := E) wc hg s1 s2 22 ho w0.heap.size 30 iM _ 1 8 Tryz.underlying22 hiM hzM0 hzM1 hzM2 rfl (by decide) _ _ _ hs hP.one _ _ _ _ _ hx (row_one hr) (by simp [Mt.ptr, Value.oneCell']) (by unfold maxLen; omega) (by omega) hP.below.size ?_
  intro v' w' h1 h2 h3
  exact h v' w' (hP.push1 hM h1 h2) (others_on hP.one h2)
/-- one of the document's more -/
theorem stepD {x : Ask} {y : Mt} {g : Nat} (hg : o.guard = none) (s1 s2 : Operand) (ho : o.op = .call { callee := .builtin .append, args := #[s1, s2], argTypes := #[26, 26] })
    (hs : a.eval s1 = vw) (hx : a.eval s2 = .slice (some ⟨g, 0, none⟩) 1 1) (hP : Pr w0 wc vm vw ms ls) (hM : MatAt wc y.M y.kind y.name y.value y.F) (hr : Whole1 wc g 142 #[.int .i64 x.kind, .string x.name, .string x.value]) (hfew : ls.length + 1 ≤ 3518437208883)
    (h : ∀ v' w', Pr w0 w' vm v' ms (ls ++ [x]) → (∀ g t cs, t ≠ 142 → Whole1 wc g t cs → Whole1 w' g t cs) → MatAt w' y.M y.kind y.name y.value y.F → K (a.put o.dst v') w') :
    if Region.wanted o (yielded ops a.tmps) = true then Oper.wp Tryz.prog o a wc K Q else E := by
  obtain ⟨iM, hiM, hzM0, hzM1, hzM2⟩ := info_parts infoW8
  refine step_appA (P := Tryz.prog) (ops := ops) (o := o) (a := a) (K := K) (Q := Q) (E := E) wc hg s1 s2 26 ho w0.heap.size 142 iM _ 3 40 Tryz.underlying26 hiM hzM0 hzM1 hzM2 rfl (by decide) _ _ _ hs hP.two _ _ _ _ _ hx (row_one hr) (by simp [Value.oneCell']) (by unfold maxLen; omega) (by omega) hP.below.size ?_
  intro v' w' h1 h2 h3
  exact h v' w' (hP.push2 (x := x) h1 h2) (kinds_on hP.two h2) (hM.kinds (kinds_on hP.two h2))
end
set_option maxHeartbeats 6400000 in
theorem matchers14_any (A : Option Addr) (n c : Nat) (l : List Ask) (w : World) (h : AskF w A n l) :
    Calls Tryz.prog 24 #[.slice A n c] w fun e w' => ∃ vm vw ms, e = .returned (.tuple #[vm, vw]) ∧ Pr w w' vm vw ms (goodA l) ∧ ms.map Mt.fit = goodF l ∧ ms.length ≤ n := by
  obtain ⟨iM, hiM, hzM0, hzM1, hzM2⟩ := info_parts infoM
  obtain ⟨iW, hiW, hzW0, hzW1, hzW2⟩ := info_parts infoW8
  have H := hidden h
  have hfew := h.few
  clear h
  go_enter Tryz.func24, Tryz.ntmps24
  go_wp2_with fail
  go_loopw [4, 5, 14] (fun vm vw vi wr => ∃ (k : Nat) (ms : List Mt), vi = .int .i64 (k : Int) ∧ k ≤ n ∧ ms.length ≤ k ∧ (goodA (l.take k)).length ≤ k ∧ Hid (Pr w wr vm vw ms (goodA (l.take k))) ∧ Hid (ms.map Mt.fit = goodF (l.take k))) (fun _ _ vi _ => n - (intOf vi).toNat)
  case atStart => exact ⟨0, [], rfl, Nat.zero_le _, Nat.le_refl _, Nat.le_refl _, ⟨World.ownsRow_nil _ _ _ _, World.ownsRow_nil _ _ _ _, by simp, Below.refl _ _⟩, rfl⟩
  case round =>
    obtain ⟨k, ms, rfl, hk, hmk, hlk, htw, hg1⟩ := hrel
    have k0 : (0 : Int) ≤ (k : Int) := by omega
    by_cases hlt : k < n
    · have k1 : (k : Int) < (n : Int) := by omega
      obtain ⟨g, o, x, rfl, hg, hx, c0, c1, c2, hxm⟩ := ask_cells (H.out.on htw.out.below) hlt
      have hT := hidden (take_snoc? hx)
      obtain ⟨hxn, hxv⟩ := H.out.sz x hxm
      have hb1 : Below wr.heap.size wr (wr.alloc (.cells #[.int .i64 x.kind, .string x.name, .string x.value] 180)) := (Below.refl _ _).alloc (Nat.le_refl _) _
      have hw1 := Whole1.new wr 180 #[.int .i64 x.kind, .string x.name, .string x.value]
      obtain ⟨w1, hww⟩ : ∃ w1, wr.alloc (.cells #[.int .i64 x.kind, .string x.name, .string x.value] 180) = w1 := ⟨_, rfl⟩
      rw [hww] at hb1 hw1
      have d0 := hw1.cell 0
      have d1 := hw1.cell 1
      have d2 := hw1.cell 2
      have HW1 := hidden hw1
      have HT1 := hidden (htw.out.on hb1)
      have S1 := hidden (new_any x.kind x.name x.value w1 hxn hxv)
      have HW := hidden hww
      rw [← hww] at d0 d1 d2
      have fwk : IntKind.i64.wrap ((k : Int) + 1) = (k : Int) + 1 := Go.IntWalk.i64_in _ (by omega)
      clear hx hxm hb1 hw1 hww htw
      go_wp2_with fail
      rw [HW.out]
      refine S1.out.mono ?_
      rintro e w2 ⟨b2, hy⟩
      have HT2 := hidden (HT1.out.on b2)
      obtain ⟨R, hR⟩ : ∃ R, wr.heap.size = R := ⟨_, rfl⟩
      have hw2 := HW1.out.below b2 HW1.out.lt
      have HS2 := hidden (fun w => rnew_any x.kind x.name x.value w hxn hxv)
      rw [hR] at hw2
      have e0 := hw2.cell 0
      have e1 := hw2.cell 1
      have e2 := hw2.cell 2
      rw [hR]
      have HI := hidden (new_iff x.kind x.name x.value)
      obtain ⟨E, hE⟩ : ∃ E, newE x.kind x.name x.value = E := ⟨_, rfl⟩
      rw [hE] at HS2 HI
      have HNE := hidden hE
      clear hE hw2 S1 c0 c1 c2 d0 d1 d2
      cases hN : newF x.kind x.name x.value with
      | error ce =>
        rw [hN] at hy
        obtain ⟨rfl, hce⟩ := hy
        have HE0 := hidden (show E ≠ 0 from fun h => by
          obtain ⟨F, hF⟩ := HI.out.1 h
          rw [hN] at hF; cases hF)
        have HG1 := hidden (show ms.map Mt.fit = goodF (l.take (k + 1)) from by rw [hT.out, goodF_bad hN]; exact hg1.out)
        have HGA := hidden (show goodA (l.take (k + 1)) = goodA (l.take k) from by rw [hT.out, goodA_bad (by rw [HNE.out]; exact HE0.out)])
        have ce0 : (ce == 0) = false := by simpa using hce
        clear hN b2 HI
        go_wp2_with fail
        refine (HS2.out _).mono ?_
        rintro e w3 ⟨v3, rfl, _, ⟨a3, b3, c3, rfl⟩, b3w⟩
        have HT3 := hidden (HT2.out.on b3w)
        clear e0 e1 e2 HS2 b3w
        have hb4 : Below w3.heap.size w3 (w3.alloc (.cells #[.int .i64 a3, .string b3, .string c3] 142)) := (Below.refl _ _).alloc (Nat.le_refl _) _
        have HT4 := hidden (HT3.out.on hb4)
        clear hb4
        go_wp2_with fail
        go_roundw
        case rel => exact ⟨k + 1, ms, by go_num, by omega, by omega, by rw [HGA.out]; omega, by rw [HGA.out]; exact HT4.out, HG1.out⟩
        case measure => simp [intOf]; omega
      | ok F =>
        rw [hN] at hy
        obtain ⟨M, rfl, hM⟩ := hy
        have hE0 : E = 0 := HI.out.2 ⟨F, hN⟩
        subst hE0
        have HG1 := hidden (show (ms ++ [(⟨M, x.kind, x.name, x.value, F⟩ : Mt)]).map Mt.fit = goodF (l.take (k + 1)) from by rw [hT.out, goodF_ok hN, List.map_append, hg1.out]; rfl)
        have HGA := hidden (show goodA (l.take (k + 1)) = goodA (l.take k) ++ [x] from by rw [hT.out, goodA_ok HNE.out])
        clear hN b2 HI
        go_wp2_with fail
        refine (HS2.out _).mono ?_
        rintro e w3 ⟨v3, rfl, hv3, _, b3w⟩
        obtain rfl := hv3 trivial
        have HT3 := hidden (HT2.out.on b3w)
        have hM3 := hM.on b3w
        have hb4 : Below w3.heap.size w3 (w3.alloc (.cells #[.int .i64 x.kind, .string x.name, .string x.value] 142)) := (Below.refl _ _).alloc (Nat.le_refl _) _
        obtain ⟨w4, hw4⟩ : ∃ w4, w3.alloc (.cells #[.int .i64 x.kind, .string x.name, .string x.value] 142) = w4 := ⟨_, rfl⟩
        obtain ⟨Y, hY⟩ : ∃ Y, w3.heap.size = Y := ⟨_, rfl⟩
        have hY4 := Whole1.new w3 142 #[.int .i64 x.kind, .string x.name, .string x.value]
        rw [hw4] at hY4 hb4
        rw [hY] at hY4
        have HP4 := hidden (HT3.out.on hb4)
        have HM4 := hidden (hM3.on hb4)
        have HY4 := hidden hY4
        clear e0 e1 e2 HS2 b3w hM hM3 hv3
        go_upto_region 9 with (fail)
        have hYd := hY4
        have y0 := hYd.cell 0
        have y1 := hYd.cell 1
        have y2 := hYd.cell 2
        have z0 := (hYd.alloc (.cells #[.pointer (some ⟨M, 0, none⟩)] 30)).cell 0
        have z1 := (hYd.alloc (.cells #[.pointer (some ⟨M, 0, none⟩)] 30)).cell 1
        have z2 := (hYd.alloc (.cells #[.pointer (some ⟨M, 0, none⟩)] 30)).cell 2
        have few1 : ms.length + 1 ≤ 3518437208883 := by omega
        have few2 : (goodA (l.take k)).length + 1 ≤ 3518437208883 := by omega
        have HP := HP4
        have HM := HM4
        have HY := hidden hYd
        have HK : Hid True := hidden trivial
        clear hY4 HY4 HM4 HP4 hYd
        go_region_law (first | (refine stepM (x := ⟨M, x.kind, x.name, x.value, F⟩) rfl _ _ rfl rfl rfl (by first | exact HP.out | exact HP.out.on (below1 _ _) | exact HP.out.on (below2 _ _ _) | exact HP.out.on (below1d _ _) | exact HP.out.on (below2d _ _ _)) (by first | exact HM.out | exact HM.out.on (below1 _ _) | exact HM.out.on (below2 _ _ _) | exact HM.out.on (below1d _ _) | exact HM.out.on (below2d _ _ _)) (by first | exact Whole1.new _ _ _ | exact (Whole1.new _ _ _).alloc _ | exact new_plus _ _ _ _ | exact HK.out _ _ _ (by decide) (Whole1.new _ _ _) | exact HK.out _ _ _ (by decide) ((Whole1.new _ _ _).alloc _) | exact HK.out _ _ _ (by decide) (new_plus _ _ _ _)) few1 ?_; intro v10 w10 hP10 hK10; have HM := hidden (hP10.m1 ⟨M, x.kind, x.name, x.value, F⟩ (by simp)); have HP := hidden hP10; try (have HY := hidden (hK10 Y 142 #[.int .i64 x.kind, .string x.name, .string x.value] (by decide) (by first | exact HY.out | exact HY.out.alloc _ | exact (HY.out.alloc _).alloc _)); have y0 := HY.out.cell 0; have y1 := HY.out.cell 1; have y2 := HY.out.cell 2); have HK := hidden hK10; clear hP10 hK10) | (refine stepD (x := x) (y := ⟨M, x.kind, x.name, x.value, F⟩) rfl _ _ rfl rfl rfl (by first | exact HP.out | exact HP.out.on (below1 _ _) | exact HP.out.on (below2 _ _ _) | exact HP.out.on (below1d _ _) | exact HP.out.on (below2d _ _ _)) (by first | exact HM.out | exact HM.out.on (below1 _ _) | exact HM.out.on (below2 _ _ _) | exact HM.out.on (below1d _ _) | exact HM.out.on (below2d _ _ _)) (by first | exact Whole1.new _ _ _ | exact (Whole1.new _ _ _).alloc _ | exact new_plus _ _ _ _ | exact HK.out _ _ _ (by decide) (Whole1.new _ _ _) | exact HK.out _ _ _ (by decide) ((Whole1.new _ _ _).alloc _) | exact HK.out _ _ _ (by decide) (new_plus _ _ _ _)) few2 ?_; intro v10 w10 hP10 hK10 hM10; have HM := hidden hM10; have HP := hidden hP10; have HK := hidden hK10; clear hP10 hK10 hM10))
        all_goals
          go_wp2_with fail
          go_roundw
          case rel => exact ⟨k + 1, _, by go_num, by omega, by simp; omega, by rw [HGA.out]; simp; omega, by rw [HGA.out]; exact HP.out, HG1.out⟩
          case measure => simp [intOf]; omega
    · obtain rfl : n = k := by omega
      rw [List.take_of_length_le (by rw [H.out.len]; exact Nat.le_refl _)] at htw hg1
      go_wp2_with fail
      go_ret2
      exact ⟨_, _, ms, rfl, htw.out, hg1.out, hmk⟩
end Go.Proofs.YtbijjjhfekkfaaaGreat

namespace Go.Proofs.YtbijjjhfekkfaaaGreat
set_option maxRecDepth 100000
open Go.RowKit Go.WideShapes

section
variable {H : Type} {enc : TypeId × Value → H} {P : Program} {W : World} {b : Nat}

theorem arg_fits {ts : List TypeId} {ds : List (DataW H)} {j : Nat} {t : TypeId} {d : DataW H} {ps : List MemPlace} (ht : ts[j]? = some t) (hd : ds[j]? = some d) (hlt : ∀ x ∈ ps, x.block < W.heap.size)
    (hsz : (DataW.weightsEach P ts ds).all (· ≤ reachBytes) = true) (hb : Rows.uptoBulkAll ds ≤ b) : Fits P W b t (d, ps) :=
  ⟨hlt, fun k hk => of_decide_eq_true (List.all_eq_true.1 hsz k (weights_each ht hd hk)), by have := bulk_mem (List.mem_of_getElem? hd); simp only; omega⟩

theorem open_arg_slice {t e : TypeId} {α : Type} [Inhabited α] {f : α → List Value} {G : α → Prop} {k base : Nat} {v : Value} {d : DataW H} {ps : List MemPlace} (ht : P.underlying t = some (.slice e)) (hC : P.cellsOf e = k) (hk : 0 < k) (hlen : ∀ a, (f a).length = k) (he : Opens enc P W b e f G)
    (hv : Value.okWide P W .any base t v) (h : DataW.Trod enc P W 0 (fun _ => true) true t v d ps) (hF : Fits P W b t (d, ps)) :
    ∃ s : Sl α, v = s.val ∧ s.At W W.heap.size k f ∧ (∀ a ∈ s.l, G a) ∧ s.n * P.bytesOf e ≤ reachBytes ∧ s.n ≤ b := by
  obtain ⟨A, n, c, rfl⟩ := okWide_slice ht hv
  obtain ⟨fuel, hf⟩ := h
  obtain ⟨s, hs, hG⟩ := opens_slice ht hC hk hlen he _ _ _ hf hF
  simp only [Value.cells, List.cons.injEq, and_true] at hs
  exact ⟨s, hs, hG⟩

theorem open_arg_int {t : TypeId} {k : IntKind} {base : Nat} {v : Value} {d : DataW H} {ps : List MemPlace} (ht : P.underlying t = some (.int k)) (hv : Value.okWide P W .any base t v) (h : DataW.Trod enc P W 0 (fun _ => true) true t v d ps) : ∃ n : Int, v = .int k n ∧ (Lit.int k n).wf = true := by
  obtain ⟨n, rfl⟩ := okWide_int ht hv
  obtain ⟨fuel, hf⟩ := h
  obtain ⟨n', hc, _, hw⟩ := DataW.trod_int ht hf
  simp only [Value.cells, List.cons.injEq, Value.int.injEq, true_and, and_true] at hc
  exact ⟨n, rfl, by rw [hc]; exact hw⟩
theorem open_arg_ints3 {t : TypeId} {f0 f1 f2 : Field} {k0 k1 k2 : IntKind} {base : Nat} {v : Value} {d : DataW H} {ps : List MemPlace} (hs : P.underlying t = some (.struct #[f0, f1, f2])) (hone : Deep.oneCellFields P #[f0, f1, f2] = true) (hC : P.cellsOf t = 3)
    (h0 : P.underlying f0.type = some (.int k0)) (h1 : P.underlying f1.type = some (.int k1)) (h2 : P.underlying f2.type = some (.int k2))
    (hv : Value.okWide P W .any base t v) (h : DataW.Trod enc P W 0 (fun _ => true) true t v d ps) :
    ∃ x0 x1 x2 : Int, v = .agg #[.int k0 x0, .int k1 x1, .int k2 x2] ∧ (Lit.int k0 x0).wf = true ∧ (Lit.int k1 x1).wf = true ∧ (Lit.int k2 x2).wf = true := by
  obtain ⟨v0, v1, v2, y0, y1, y2, n, hv', _, _, g0, g1, g2⟩ := Joins.open_agg3 hs hone hC hv h
  obtain ⟨x0, e0, _, w0⟩ := DataW.trod_int h0 g0
  obtain ⟨x1, e1, _, w1⟩ := DataW.trod_int h1 g1
  obtain ⟨x2, e2, _, w2⟩ := DataW.trod_int h2 g2
  simp only [List.cons.injEq, and_true] at e0 e1 e2
  exact ⟨x0, x1, x2, by rw [hv', e0, e1, e2], w0, w1, w2⟩
end
end Go.Proofs.YtbijjjhfekkfaaaGreat

namespace Go.Proofs.YtbijjjhfekkfaaaGreat
set_option maxRecDepth 100000
open Go.RowKit Go.WideShapes Go.ChangeShapes Go.Shelf

section
variable {H : Type} {enc : TypeId × Value → H} {W : World} {b : Nat}
theorem open_text_n {base : Nat} {t : TypeId} {v : Value} {d : DataW H} {ps : List MemPlace} (ht : Tryz.prog.underlying t = some .string) (hv : Value.okWide Tryz.prog W .any base t v) (h : DataW.Trod enc Tryz.prog W 0 (fun _ => true) true t v d ps) (hF : Fits Tryz.prog W b t (d, ps)) :
    ∃ s : List UInt8, v = .string ⟨s.toArray⟩ ∧ s.length ≤ b := by
  obtain ⟨s, rfl⟩ := okWide_string ht hv
  obtain ⟨fuel, hf⟩ := h
  obtain ⟨s', hc, hx, _⟩ := DataW.trod_string ht hf
  simp only [Value.cells, List.cons.injEq, Value.string.injEq, and_true] at hc
  subst hc
  have hs := hF.small
  rw [hx] at hs
  simp only [Rows.uptoBulk] at hs
  exact ⟨s.data.toList, by simp, by omega⟩
theorem open_text {base : Nat} {t : TypeId} {v : Value} {d : DataW H} {ps : List MemPlace} (ht : Tryz.prog.underlying t = some .string) (hv : Value.okWide Tryz.prog W .any base t v) (h : DataW.Trod enc Tryz.prog W 0 (fun _ => true) true t v d ps) (hF : Fits Tryz.prog W b t (d, ps)) :
    ∃ s : List UInt8, v = .string ⟨s.toArray⟩ ∧ s.length ≤ 140737488355328 := by
  obtain ⟨s, rfl⟩ := okWide_string ht hv
  obtain ⟨fuel, hf⟩ := h
  obtain ⟨s', hc, hs, _⟩ := opens_string ht _ _ _ hf hF
  simp only [Value.cells, List.cons.injEq, Value.string.injEq, and_true] at hc
  subst hc
  unfold reachBytes at hs
  exact ⟨s.data.toList, by simp, Nat.le_trans hs (by decide)⟩
end
end Go.Proofs.YtbijjjhfekkfaaaGreat
