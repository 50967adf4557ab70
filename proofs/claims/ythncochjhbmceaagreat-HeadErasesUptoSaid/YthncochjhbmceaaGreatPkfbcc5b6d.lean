/- The document's reading of a pattern, and its matchers: walked. Condition: the texts are no longer than memory. Matchers that are asked for: how they lie, which are such. No program is walked here. What is asked for, made matchers: the law's own list and the document's, walked. Condition: the texts are no longer than memory. -/
import Derived.Test.YthncochjhbmceaaGreatPkc7529fb4
import Derived.Test.YthncochjhbmceaaGreatPk584e6475
import Derived.Test.YthncochjhbmceaaGreatPke9aa02e7
import Derived.Test.YthncochjhbmceaaGreatPkb025935b
namespace Go.Proofs.YthncochjhbmceaaGreat
set_option maxRecDepth 100000
open Go.RowKit

/-- an error's number, or 0 -/
def errN {α : Type} : PR α → Nat
  | .bad e => e
  | .ok _ _ => 0
set_option maxHeartbeats 1600000 in
theorem rparse_any (s : ByteArray) (w : World) (hs : s.size ≤ 140737488355328) :
    Calls Tryz.prog 98 #[.string s] w fun x w' => (∃ p, x = .returned (.tuple #[p, .int .i64 ((errN (parseP s.data.toList) : Nat) : Int)])) ∧ Below w.heap.size w w' := by
  have hsl : s.data.toList.length = s.size := rfl
  by_cases h64 : 64 < s.size
  · have eP : parseP s.data.toList = .bad 60 := if_pos (by omega)
    have h64' : (64 : Int) < (s.size : Int) := by omega
    have HE := hidden (show errN (parseP s.data.toList) = 60 by rw [eP]; rfl)
    clear eP
    go_enter Tryz.func98, Tryz.ntmps98
    go_wp2_with fail
    go_ret2
    rw [HE.out]
    exact ⟨⟨_, rfl⟩, Below.refl _ _⟩
  · have eP : parseP s.data.toList = depthP s.data.toList 16 0 := if_neg (by omega)
    have h64' : ¬ (64 : Int) < (s.size : Int) := by omega
    have HE := hidden eP
    clear eP hsl
    go_enter Tryz.func98, Tryz.ntmps98
    go_wp2_with fail
    obtain ⟨w1, hw1⟩ : ∃ w1, w.alloc (.cells #[.slice none 0 0, .string s, .int .i64 0, .int .i64 0, .int .i64 0] 282) = w1 := ⟨_, rfl⟩
    obtain ⟨T, hT⟩ : ∃ T, w.heap.size = T := ⟨_, rfl⟩
    have HB1 := hidden (show Below w.heap.size w w1 from hw1 ▸ (Below.refl _ _).alloc (Nat.le_refl _) _)
    have HT1 := hidden (show TrV w1 T T (.slice none 0 0) s 0 0 0 0 from by
      rw [← hw1, ← hT]
      exact ⟨Whole1.new _ _ _, ⟨[], World.ownsRow_nil _ _ _ _⟩, Nat.le_refl _, by simp⟩)
    have S1 := hidden (rbrs_all 16 T T _ s 0 0 0 w1 HT1.out rfl (by omega) (by omega) (by omega))
    have HTT := hidden hT
    rw [hw1, hT]
    clear hw1 hT HT1
    refine S1.out.mono ?_
    rintro e w2 ⟨nv, k, i, f, rfl, t2, u2, hk, hk', hi, hi', hf, r2⟩
    have HB2 := hidden (show Below w.heap.size w w2 from HB1.out.trans (u2.below (Nat.le_of_eq HTT.out) (by rw [HTT.out]; have := HB1.out.size; rw [HTT.out] at this; exact this)))
    have c4 := t2.blk.cell 4
    have c0 := t2.blk.cell 0
    obtain ⟨xs, ho⟩ := t2.own
    obtain ⟨A, c, rfl, _, _⟩ := own_shape ho
    have HR := hidden (show errN (parseP s.data.toList) = f from by
      rw [HE.out]
      rcases r2.2 rfl with ⟨t, j, e1, _, rfl⟩ | ⟨e, e1, rfl, _⟩
      · rw [e1]; rfl
      · rw [e1]; rfl)
    clear S1 t2 u2 r2 ho HB1 HE
    by_cases h0 : f = 0
    · subst h0
      have fwk : IntKind.i64.wrap (((k : Int) + 1) - 1) = (k : Int) := by
        rw [show ((k : Int) + 1) - 1 = (k : Int) from by omega]
        exact Go.IntWalk.i64_in _ (by omega)
      go_wp2_with fail
      go_ret2
      rw [HR.out]
      exact ⟨⟨_, rfl⟩, HB2.out⟩
    · have f0 : ((f : Int) != 0) = true := by simpa using h0
      have f1 : (f != 0) = true := by simpa using h0
      go_wp2_with fail
      go_quiet (fail)
      go_wp2_with fail
      go_ret2
      rw [HR.out]
      exact ⟨⟨_, rfl⟩, below_drewN HB2.out _⟩
/-- the document's error for a matcher -/
def newE (kind : Int) (name value : ByteArray) : Nat := if kind < 0 ∨ 3 < kind then 80 else if fitN name = false then 40 else if kind < 2 ∧ 64 < value.size then 41 else if 2 ≤ kind then errN (parseP value.data.toList) else 0
set_option maxHeartbeats 1600000 in
theorem rnew_any (kind : Int) (name value : ByteArray) (w : World) (hn : name.size ≤ 140737488355328) (hv : value.size ≤ 140737488355328) :
    Calls Tryz.prog 58 #[.int .i64 kind, .string name, .string value] w fun e w' => ∃ v, e = .returned (.tuple #[v, .int .i64 ((newE kind name value : Nat) : Int)]) ∧ (newE kind name value = 0 → v = .agg #[.int .i64 kind, .string name, .string value]) ∧ (∃ a b c, v = .agg #[.int .i64 a, .string b, .string c]) ∧ Below w.heap.size w w' := by
  obtain ⟨E, hE⟩ : ∃ E, newE kind name value = E := ⟨_, rfl⟩
  rw [hE]
  unfold newE at hE
  by_cases h1 : kind < 0
  · rw [if_pos (by omega)] at hE
    have HE := hidden hE
    clear hE
    go_enter Tryz.func58, Tryz.ntmps58
    go_wp2_with fail
    refine bodyPost_ret (v := .tuple #[.agg #[.int .i64 0, .string ⟨#[]⟩, .string ⟨#[]⟩], .int .i64 80]) (by simp [results, Tryz.results58, go_sem]) rfl ?_
    exact ⟨_, (by rw [← HE.out]; rfl), fun h => (by have := HE.out; omega), ⟨_, _, _, rfl⟩, (Below.refl _ _).alloc (Nat.le_refl _) _⟩
  · by_cases h2 : 3 < kind
    · rw [if_pos (by omega)] at hE
      have HE := hidden hE
      clear hE
      go_enter Tryz.func58, Tryz.ntmps58
      go_wp2_with fail
      refine bodyPost_ret (v := .tuple #[.agg #[.int .i64 0, .string ⟨#[]⟩, .string ⟨#[]⟩], .int .i64 80]) (by simp [results, Tryz.results58, go_sem]) rfl ?_
      exact ⟨_, (by rw [← HE.out]; rfl), fun h => (by have := HE.out; omega), ⟨_, _, _, rfl⟩, (Below.refl _ _).alloc (Nat.le_refl _) _⟩
    · rw [if_neg (by omega)] at hE
      have SF := hidden (fun w => rfitName_any name w (by omega))
      cases hf : fitN name with
      | false =>
        rw [if_pos hf] at hE
        have HE := hidden hE
        rw [hf] at SF
        clear hE hf
        go_enter Tryz.func58, Tryz.ntmps58
        go_wp2_with fail
        refine (SF.out _).mono ?_
        rintro e w1 ⟨rfl, rfl⟩
        clear SF
        go_wp2_with fail
        refine bodyPost_ret (v := .tuple #[.agg #[.int .i64 0, .string ⟨#[]⟩, .string ⟨#[]⟩], .int .i64 40]) (by simp [results, Tryz.results58, go_sem]) rfl ?_
        exact ⟨_, (by rw [← HE.out]; rfl), fun h => (by have := HE.out; omega), ⟨_, _, _, rfl⟩, (Below.refl _ _).alloc (Nat.le_refl _) _⟩
      | true =>
        rw [if_neg (by rw [hf]; simp)] at hE
        rw [hf] at SF
        clear hf
        by_cases h3 : kind < 2
        · by_cases h4 : 64 < value.size
          · rw [if_pos ⟨h3, h4⟩] at hE
            have HE := hidden hE
            have h4' : (64 : Int) < (value.size : Int) := by omega
            clear hE
            go_enter Tryz.func58, Tryz.ntmps58
            go_wp2_with fail
            refine (SF.out _).mono ?_
            rintro e w1 ⟨rfl, rfl⟩
            clear SF
            go_wp2_with fail
            refine bodyPost_ret (v := .tuple #[.agg #[.int .i64 0, .string ⟨#[]⟩, .string ⟨#[]⟩], .int .i64 41]) (by simp [results, Tryz.results58, go_sem]) rfl ?_
            exact ⟨_, (by rw [← HE.out]; rfl), fun h => (by have := HE.out; omega), ⟨_, _, _, rfl⟩, (Below.refl _ _).alloc (Nat.le_refl _) _⟩
          · rw [if_neg (fun h => h4 h.2), if_neg (by omega)] at hE
            have HE := hidden hE
            have h4' : ¬ (64 : Int) < (value.size : Int) := by omega
            have h3' : ¬ (2 : Int) ≤ kind := by omega
            clear hE
            go_enter Tryz.func58, Tryz.ntmps58
            go_wp2_with fail
            refine (SF.out _).mono ?_
            rintro e w1 ⟨rfl, rfl⟩
            clear SF
            go_wp2_with fail
            refine bodyPost_ret (v := .tuple #[.agg #[.int .i64 kind, .string name, .string value], .int .i64 0]) (by simp [results, Tryz.results58, go_sem]) rfl ?_
            exact ⟨_, (by rw [← HE.out]; rfl), fun _ => rfl, ⟨_, _, _, rfl⟩, (Below.refl _ _).alloc (Nat.le_refl _) _⟩
        · rw [if_neg (fun h => h3 h.1), if_pos (by omega)] at hE
          have HE := hidden hE
          have h3' : (2 : Int) ≤ kind := by omega
          have SP := hidden (fun w => rparse_any value w hv)
          rw [hE] at SP
          clear hE
          go_enter Tryz.func58, Tryz.ntmps58
          go_wp2_with fail
          refine (SF.out _).mono ?_
          rintro e w1 ⟨rfl, rfl⟩
          clear SF
          go_wp2_with fail
          refine (SP.out _).mono ?_
          rintro e w2 ⟨⟨p, rfl⟩, hb⟩
          obtain ⟨R, hR⟩ : ∃ R, w.heap.size = R := ⟨_, rfl⟩
          have hw2 := (Whole1.new w 163 #[.int .i64 0, .string ⟨#[]⟩, .string ⟨#[]⟩]).below hb (by simp)
          have HB := hidden (show Below w.heap.size w w2 from ((Below.refl w.heap.size w).alloc (Nat.le_refl _) _).trans (hb.mono (by simp)))
          rw [hR] at hw2 ⊢
          have HW := hidden hw2
          have HR := hidden hR
          have c0 := hw2.cell 0
          have c1 := hw2.cell 1
          have c2 := hw2.cell 2
          have g0 := hw2.free 0
          have g1 := hw2.free 1
          have g2 := hw2.free 2
          clear hw2 hb hR SP
          have HPB := hidden (fun (a b c : Value) => show Below w.heap.size w (((w2.setCell ⟨R, 0, none⟩ a).setCell ⟨R, 1, none⟩ b).setCell ⟨R, 2, none⟩ c) from by
            have hg : w.heap.size ≤ R := Nat.le_of_eq HR.out
            exact ((HB.out.setCell (p := ⟨R, 0, none⟩) hg a).setCell (p := ⟨R, 1, none⟩) hg b).setCell (p := ⟨R, 2, none⟩) hg c)
          have HPW := hidden (fun (a b c : Value) => show Whole1 (((w2.setCell ⟨R, 0, none⟩ a).setCell ⟨R, 1, none⟩ b).setCell ⟨R, 2, none⟩ c) R 163 #[a, b, c] from ((HW.out.put 0 _).put 1 _).put 2 _)
          by_cases h0 : E = 0
          · subst h0
            go_wp2_with fail
            have x0 := (HPW.out (.int .i64 kind) (.string name) (.string value)).cell 0
            have x1 := (HPW.out (.int .i64 kind) (.string name) (.string value)).cell 1
            have x2 := (HPW.out (.int .i64 kind) (.string name) (.string value)).cell 2
            have HXB := hidden (HPB.out (.int .i64 kind) (.string name) (.string value))
            generalize ((w2.setCell ⟨R, 0, none⟩ (.int .i64 kind)).setCell ⟨R, 1, none⟩ (.string name)).setCell ⟨R, 2, none⟩ (.string value) = w9 at *
            refine bodyPost_ret (v := .tuple #[.agg #[.int .i64 kind, .string name, .string value], .int .i64 0]) (by simp [results, Tryz.results58, go_sem, x0, x1, x2]) rfl ?_
            exact ⟨_, rfl, rfl, ⟨_, _, _, rfl⟩, HXB.out⟩
          · have f0 : ((E : Int) != 0) = true := by simpa using h0
            have f1 : (E != 0) = true := by simpa using h0
            go_wp2_with fail
            have x0 := (HPW.out (.int .i64 0) (.string ⟨#[]⟩) (.string ⟨#[]⟩)).cell 0
            have x1 := (HPW.out (.int .i64 0) (.string ⟨#[]⟩) (.string ⟨#[]⟩)).cell 1
            have x2 := (HPW.out (.int .i64 0) (.string ⟨#[]⟩) (.string ⟨#[]⟩)).cell 2
            have HXB := hidden (HPB.out (.int .i64 0) (.string ⟨#[]⟩) (.string ⟨#[]⟩))
            generalize ((w2.setCell ⟨R, 0, none⟩ (.int .i64 0)).setCell ⟨R, 1, none⟩ (.string ⟨#[]⟩)).setCell ⟨R, 2, none⟩ (.string ⟨#[]⟩) = w9 at *
            refine bodyPost_ret (v := .tuple #[.agg #[.int .i64 0, .string ⟨#[]⟩, .string ⟨#[]⟩], .int .i64 (E : Int)]) (by simp [results, Tryz.results58, go_sem, x0, x1, x2]) rfl ?_
            exact ⟨_, rfl, fun h => absurd h h0, ⟨_, _, _, rfl⟩, HXB.out⟩
end Go.Proofs.YthncochjhbmceaaGreat

namespace Go.Proofs.YthncochjhbmceaaGreat
set_option maxRecDepth 100000
open Go.RowKit Go.WideShapes Go.ChangeShapes

/-- a matcher's parts, as they lie -/
structure Ask where
  kind : Int
  name : ByteArray
  value : ByteArray
def Ask.cells (x : Ask) : List Value := [.int .i64 x.kind, .string x.name, .string x.value]
structure AskF (w : World) (A : Option Addr) (n : Nat) (l : List Ask) : Prop where
  row : Row w w.heap.size 3 A n (l.flatMap Ask.cells)
  len : l.length = n
  few : n ≤ 3518437208883
  sz : ∀ x ∈ l, x.name.size ≤ 140737488355328 ∧ x.value.size ≤ 140737488355328
theorem AskF.on {w w' : World} {A : Option Addr} {n : Nat} {l : List Ask} (h : AskF w A n l) (hb : Below w.heap.size w w') : AskF w' A n l := ⟨(h.row.below hb).more hb.size, h.len, h.few, h.sz⟩
theorem ask_cells {w : World} {A : Option Addr} {n : Nat} {l : List Ask} (h : AskF w A n l) {k : Nat} (hk : k < n) : ∃ g o x, A = some ⟨g, o, none⟩ ∧ g < w.heap.size ∧ l[k]? = some x ∧ w.cell? ⟨g, o + k * 3, none⟩ = some (.int .i64 x.kind) ∧ w.cell? ⟨g, o + k * 3 + 1, none⟩ = some (.string x.name) ∧ w.cell? ⟨g, o + k * 3 + 2, none⟩ = some (.string x.value) ∧ x ∈ l := by
  obtain ⟨g, o, x, hA, hg, hx, hc⟩ := row_at (enc := Ask.cells) (k := 3) (fun _ => rfl) h.row h.len k hk
  exact ⟨g, o, x, hA, hg, hx, hc 0 (by omega), hc 1 (by omega), hc 2 (by omega), List.mem_of_getElem? hx⟩
/-- those that are matchers: what they fit -/
def goodF (l : List Ask) : List (ByteArray × (ByteArray → Bool)) := l.filterMap fun x => match newF x.kind x.name x.value with
  | .ok F => some (x.name, F)
  | .error _ => none
def Mt.fit (x : Mt) : ByteArray × (ByteArray → Bool) := (x.name, x.F)
theorem infoM : (Tryz.prog.info? 159).map (fun i => (i.zero, i.size, i.bytes)) = some (some (.pointer none), 1, 8) := by kernel_rfl
/-- a row of matchers of the call's own -/
def OwnM (w : World) (B : Nat) (v : Value) (ms : List Mt) : Prop := w.ownsRow B 159 1 v ms.length (ms.map Mt.ptr) ∧ ∀ x ∈ ms, MatAt w x.M x.kind x.name x.value x.F
theorem OwnM.on {w w' : World} {B : Nat} {v : Value} {ms : List Mt} (h : OwnM w B v ms) (hb : Below w.heap.size w w') : OwnM w' B v ms := ⟨own_below h.1 hb (Nat.le_refl _), fun x hx => (h.2 x hx).on hb⟩
theorem OwnM.row {w : World} {B : Nat} {v : Value} {ms : List Mt} (h : OwnM w B v ms) : ∃ A c, v = .slice A ms.length c ∧ ms.length ≤ c ∧ MtRow w A ms.length ms := by
  obtain ⟨A, c, rfl, hc, hr⟩ := own_shape h.1
  exact ⟨A, c, rfl, hc, hr, rfl, h.2⟩

/-- what a growing row of pointers leaves as it is -/
theorem others_on {w w' : World} {B n : Nat} {v : Value} {xs : List Value} (ho : w.ownsRow B 159 1 v n xs) (hg : w.grownBy w' v.ownBlock) : ∀ g t cs, t ≠ 159 → Whole1 w g t cs → Whole1 w' g t cs := fun g t cs ht hw => by
  refine (hg.block g hw.lt fun e => ?_).trans hw
  rcases ho.2 with ⟨h1, _⟩ | ⟨k, cap, cur, h1, h2, h3, _⟩
  · rw [h1] at e; cases e
  · rw [h1] at e
    have e : g = k := Option.some.inj e
    subst e
    exact kinds_apart (show Whole1 w g 159 cur from h3) hw (Ne.symm ht) rfl
theorem fitB_others {w w' : World} (hs : ∀ g t cs, t ≠ 159 → Whole1 w g t cs → Whole1 w' g t cs) {fv : Value} {F : ByteArray → Bool} (h : FitB w fv F) : FitB w' fv F := by
  rcases h with ⟨bx, value, e, h1, h2⟩ | ⟨nb, p, t, e, h1, h2, h3⟩
  · exact .inl ⟨bx, value, e, hs _ _ _ (by decide) h1, h2⟩
  · exact .inr ⟨nb, p, t, e, hs _ _ _ (by decide) h1, isTr_nodes (fun g u cs hu h => hs _ _ _ (by rcases hu with rfl | rfl <;> decide) h) t p h2, h3⟩
theorem MatAt.others {w w' : World} (hs : ∀ g t cs, t ≠ 159 → Whole1 w g t cs → Whole1 w' g t cs) {M : Nat} {kind : Int} {name value : ByteArray} {F : ByteArray → Bool} (h : MatAt w M kind name value F) : MatAt w' M kind name value F := by
  obtain ⟨fv, h1, h2⟩ := h
  refine ⟨fv, hs _ _ _ (by decide) h1, ?_⟩
  rcases h2 with h2 | ⟨tb, fv0, F0, e, k1, k2, k3⟩
  · exact .inl (fitB_others hs h2)
  · exact .inr ⟨tb, fv0, F0, e, hs _ _ _ (by decide) k1, fitB_others hs k2, k3⟩
theorem goodF_ok {l : List Ask} {x : Ask} {F : ByteArray → Bool} (h : newF x.kind x.name x.value = .ok F) : goodF (l ++ [x]) = goodF l ++ [(x.name, F)] := by
  unfold goodF
  rw [List.filterMap_append]
  simp [h]
theorem goodF_bad {l : List Ask} {x : Ask} {c : Int} (h : newF x.kind x.name x.value = .error c) : goodF (l ++ [x]) = goodF l := by
  unfold goodF
  rw [List.filterMap_append]
  simp [h]
/-- the program and the document agree on what is a matcher -/
theorem make_name (name : ByteArray) : makeErr [⟨name, ⟨#[120]⟩⟩] = 0 ↔ fitN name = true := by
  have h1 : makeErr [⟨name, ⟨#[120]⟩⟩] = errAt [⟨name, ⟨#[120]⟩⟩] 0 := rfl
  have h2 : fitV ⟨#[120]⟩ = true := by decide
  rw [h1, errAt]
  simp [h2]
theorem new_iff (kind : Int) (name value : ByteArray) : newE kind name value = 0 ↔ ∃ F, newF kind name value = .ok F := by
  unfold newE newF
  by_cases h1 : kind < 0 ∨ 3 < kind
  · rw [if_pos h1, if_pos h1]; simp
  rw [if_neg h1, if_neg h1]
  by_cases h2 : fitN name = true
  · have hm := (make_name name).2 h2
    rw [if_neg (show ¬ fitN name = false by rw [h2]; simp), if_neg (show ¬ makeErr [⟨name, ⟨#[120]⟩⟩] ≠ 0 by rw [hm]; simp)]
    by_cases h3 : kind ≤ 1
    · rw [if_pos h3]
      by_cases h4 : 64 < value.size
      · rw [if_pos (show kind < 2 ∧ 64 < value.size from ⟨by omega, h4⟩), if_pos h4]; simp
      · rw [if_neg (show ¬ (kind < 2 ∧ 64 < value.size) from fun h => h4 h.2), if_neg (show ¬ 2 ≤ kind by omega), if_neg h4]; simp
    · rw [if_neg (show ¬ (kind < 2 ∧ 64 < value.size) from fun h => h3 (by omega)), if_pos (show 2 ≤ kind by omega), if_neg h3]
      cases hp : parseP value.data.toList with
      | bad e =>
        have := nz_parse _ _ hp
        simp [errN, this]
      | ok t j => simp [errN]
  · have hm : makeErr [⟨name, ⟨#[120]⟩⟩] ≠ 0 := fun h => h2 ((make_name name).1 h)
    rw [if_pos (show fitN name = false by simpa using h2), if_pos hm]; simp
/-- those that are matchers -/
def goodA (l : List Ask) : List Ask := l.filter fun x => decide (newE x.kind x.name x.value = 0)
theorem goodA_ok {l : List Ask} {x : Ask} (h : newE x.kind x.name x.value = 0) : goodA (l ++ [x]) = goodA l ++ [x] := by
  unfold goodA
  rw [List.filter_append]
  simp [h]
theorem goodA_bad {l : List Ask} {x : Ask} (h : newE x.kind x.name x.value ≠ 0) : goodA (l ++ [x]) = goodA l := by
  unfold goodA
  rw [List.filter_append]
  simp [h]
end Go.Proofs.YthncochjhbmceaaGreat

namespace Go.Proofs.YthncochjhbmceaaGreat
set_option maxRecDepth 100000
open Go.RowKit

theorem infoW8 : (Tryz.prog.info? 163).map (fun i => (i.zero, i.size, i.bytes)) = some (some (.agg #[.int .i64 0, .string ⟨#[]⟩, .string ⟨#[]⟩]), 3, 40) := by kernel_rfl
/-- rows of two kinds are two rows -/
theorem own_apart {w : World} {B1 B2 n1 n2 s1 s2 : Nat} {T1 T2 : TypeId} {v1 v2 : Value} {xs ys : List Value} (h1 : w.ownsRow B1 T1 s1 v1 n1 xs) (h2 : w.ownsRow B2 T2 s2 v2 n2 ys) (hne : T1 ≠ T2) {g : Nat} (e1 : v1.ownBlock = some g) : v2.ownBlock ≠ some g := fun e2 => by
  rcases h1.2 with ⟨h, _⟩ | ⟨k, cap, cur, a1, a2, a3, _⟩
  · rw [h] at e1; cases e1
  rcases h2.2 with ⟨h, _⟩ | ⟨k', cap', cur', b1, b2, b3, _⟩
  · rw [h] at e2; cases e2
  rw [a1] at e1; rw [b1] at e2
  have e1 : k = g := Option.some.inj e1
  have e2 : k' = g := Option.some.inj e2
  subst e1
  subst e2
  exact kinds_apart (show Whole1 w k' T1 cur from a3) (show Whole1 w k' T2 cur' from b3) hne rfl
theorem own_kept {w w' : World} {B1 B2 n1 n2 s1 s2 : Nat} {T1 T2 : TypeId} {v1 v2 : Value} {xs ys : List Value} (h1 : w.ownsRow B1 T1 s1 v1 n1 xs) (h2 : w.ownsRow B2 T2 s2 v2 n2 ys) (hne : T1 ≠ T2) (hg : w.grownBy w' v1.ownBlock) : w'.ownsRow B2 T2 s2 v2 n2 ys := by
  refine h2.kept hg ?_
  cases hv : v1.ownBlock with
  | none =>
    cases hv2 : v2.ownBlock with
    | none => exact .inl rfl
    | some g => exact .inr (by simp)
  | some g =>
    cases hv2 : v2.ownBlock with
    | none => exact .inl rfl
    | some k => exact .inr fun e => own_apart h1 h2 hne hv (by rw [hv2, ← e])
/-- what a growing row leaves as it is -/
theorem kinds_on {w w' : World} {B n s : Nat} {T : TypeId} {v : Value} {xs : List Value} (ho : w.ownsRow B T s v n xs) (hg : w.grownBy w' v.ownBlock) : ∀ g t cs, t ≠ T → Whole1 w g t cs → Whole1 w' g t cs := fun g t cs ht hw => by
  refine (hg.block g hw.lt fun e => ?_).trans hw
  rcases ho.2 with ⟨h1, _⟩ | ⟨k, cap, cur, h1, h2, h3, _⟩
  · rw [h1] at e; cases e
  · rw [h1] at e
    have e : g = k := Option.some.inj e
    subst e
    exact kinds_apart (show Whole1 w g T cur from h3) hw (Ne.symm ht) rfl
theorem fitB_kinds {w w' : World} (hs : ∀ g t cs, t ≠ 163 → Whole1 w g t cs → Whole1 w' g t cs) {fv : Value} {F : ByteArray → Bool} (h : FitB w fv F) : FitB w' fv F := by
  rcases h with ⟨bx, value, e, h1, h2⟩ | ⟨nb, p, t, e, h1, h2, h3⟩
  · exact .inl ⟨bx, value, e, hs _ _ _ (by decide) h1, h2⟩
  · exact .inr ⟨nb, p, t, e, hs _ _ _ (by decide) h1, isTr_nodes (fun g u cs hu h => hs _ _ _ (by rcases hu with rfl | rfl <;> decide) h) t p h2, h3⟩
theorem MatAt.kinds {w w' : World} (hs : ∀ g t cs, t ≠ 163 → Whole1 w g t cs → Whole1 w' g t cs) {M : Nat} {kind : Int} {name value : ByteArray} {F : ByteArray → Bool} (h : MatAt w M kind name value F) : MatAt w' M kind name value F := by
  obtain ⟨fv, h1, h2⟩ := h
  refine ⟨fv, hs _ _ _ (by decide) h1, ?_⟩
  rcases h2 with h2 | ⟨tb, fv0, F0, e, k1, k2, k3⟩
  · exact .inl (fitB_kinds hs h2)
  · exact .inr ⟨tb, fv0, F0, e, hs _ _ _ (by decide) k1, fitB_kinds hs k2, k3⟩
/-- both lists under way -/
structure Pr (w0 w : World) (vm vw : Value) (ms : List Mt) (ls : List Ask) : Prop where
  one : w.ownsRow w0.heap.size 159 1 vm ms.length (ms.map Mt.ptr)
  two : w.ownsRow w0.heap.size 163 3 vw ls.length (ls.flatMap Ask.cells)
  m1 : ∀ x ∈ ms, MatAt w x.M x.kind x.name x.value x.F
  below : Below w0.heap.size w0 w
section
variable {w0 w w' : World} {vm vw v1 : Value} {ms : List Mt} {ls : List Ask}
theorem Pr.on (h : Pr w0 w vm vw ms ls) (hb : Below w.heap.size w w') : Pr w0 w' vm vw ms ls :=
  ⟨own_below h.one hb (Nat.le_refl _), own_below h.two hb (Nat.le_refl _), fun x hx => (h.m1 x hx).on hb, h.below.trans (hb.mono h.below.size)⟩
theorem Pr.push1 {x : Mt} (h : Pr w0 w vm vw ms ls) (hx : MatAt w x.M x.kind x.name x.value x.F) (ho : w'.ownsRow w0.heap.size 159 1 v1 (ms.length + 1) (ms.map Mt.ptr ++ [x.ptr])) (hg : w.grownBy w' vm.ownBlock) : Pr w0 w' v1 vw (ms ++ [x]) ls := by
  have hs := others_on h.one hg
  refine ⟨by simpa using ho, own_kept h.one h.two (by decide) hg, fun y hy => ?_, h.below.grown hg h.below.size fun k hk => (h.one.lt k hk).1⟩
  rcases List.mem_append.1 hy with hy | hy
  · exact (h.m1 y hy).others hs
  · rw [List.mem_singleton.1 hy]; exact hx.others hs
theorem Pr.push2 {x : Ask} (h : Pr w0 w vm vw ms ls) (ho : w'.ownsRow w0.heap.size 163 3 v1 (ls.length + 1) (ls.flatMap Ask.cells ++ x.cells)) (hg : w.grownBy w' vw.ownBlock) : Pr w0 w' vm v1 ms (ls ++ [x]) :=
  ⟨own_kept h.two h.one (by decide) hg, by simpa using ho, fun y hy => (h.m1 y hy).kinds (kinds_on h.two hg), h.below.grown hg h.below.size fun k hk => (h.two.lt k hk).1⟩
end
section
variable {w0 wc : World} {vm vw : Value} {ms : List Mt} {ls : List Ask} {ops : Array Oper} {o : Oper} {a : Act} {K : Act → World → Prop} {Q : Exit → Act → World → Prop} {E : Prop}
theorem row_one {w : World} {g : Nat} {T : TypeId} {cs : Array Value} (h : Whole1 w g T cs) : Row w w.heap.size cs.size (some ⟨g, 0, none⟩) 1 cs.toList :=
  ⟨by simp, fun _ => ⟨g, 0, rfl, h.lt, fun j _ => by rw [h.cell, Nat.zero_add]; simp⟩⟩
theorem below1 (w : World) (x : Obj) : Below w.heap.size w (w.alloc x) := (Below.refl _ _).alloc (Nat.le_refl _) _
theorem below1d (w : World) (x : Obj) : Below w.heap.size w (w.alloc x).drew := (below1 w x).drew
theorem below2 (w : World) (x y : Obj) : Below w.heap.size w ((w.alloc x).alloc y) := (below1 w x).alloc (by simp) _
theorem below2d (w : World) (x y : Obj) : Below w.heap.size w ((w.alloc x).alloc y).drew := (below2 w x y).drew
theorem new_plus (w : World) (x : Obj) (T : TypeId) (cs : Array Value) : Whole1 ((w.alloc x).alloc (.cells cs T)) (w.heap.size + 1) T cs := by
  have := Whole1.new (w.alloc x) T cs
  rwa [World.size_alloc] at this
/-- a matcher more -/
theorem stepM {x : Mt} {g : Nat} (hg : o.guard = none) (s1 s2 : Operand) (ho : o.op = .call { callee := .builtin .append, args := #[s1, s2], argTypes := #[77, 77] })
    (hs : a.eval s1 = vm) (hx : a.eval s2 = .slice (some ⟨g, 0, none⟩) 1 1) (hP : Pr w0 wc vm vw ms ls) (hM : MatAt wc x.M x.kind x.name x.value x.F) (hr : Whole1 wc g 159 #[x.ptr]) (hfew : ms.length + 1 ≤ 3518437208883)
    (h : ∀ v' w', Pr w0 w' v' vw (ms ++ [x]) ls → (∀ g t cs, t ≠ 159 → Whole1 wc g t cs → Whole1 w' g t cs) → K (a.put o.dst v') w') :
    if Region.wanted o (yielded ops a.tmps) = true then Oper.wp Tryz.prog o a wc K Q else E := by
  obtain ⟨iM, hiM, hzM0, hzM1, hzM2⟩ := info_parts infoM
  refine step_appA (P := Tryz.prog) (ops := ops) (o := o) (a := a) (K := K) (Q := Q) (E := E) wc hg s1 s2 77 ho w0.heap.size 159 iM _ 1 8 Tryz.underlying77 hiM hzM0 hzM1 hzM2 rfl (by decide) _ _ _ hs hP.one _ _ _ _ _ hx (row_one hr) (by simp [Mt.ptr, Value.oneCell']) (by unfold maxLen; omega) (by omega) hP.below.size ?_
  intro v' w' h1 h2 h3
  exact h v' w' (hP.push1 hM h1 h2) (others_on hP.one h2)
/-- one of the document's more -/
theorem stepD {x : Ask} {y : Mt} {g : Nat} (hg : o.guard = none) (s1 s2 : Operand) (ho : o.op = .call { callee := .builtin .append, args := #[s1, s2], argTypes := #[78, 78] })
    (hs : a.eval s1 = vw) (hx : a.eval s2 = .slice (some ⟨g, 0, none⟩) 1 1) (hP : Pr w0 wc vm vw ms ls) (hM : MatAt wc y.M y.kind y.name y.value y.F) (hr : Whole1 wc g 163 #[.int .i64 x.kind, .string x.name, .string x.value]) (hfew : ls.length + 1 ≤ 3518437208883)
    (h : ∀ v' w', Pr w0 w' vm v' ms (ls ++ [x]) → (∀ g t cs, t ≠ 163 → Whole1 wc g t cs → Whole1 w' g t cs) → MatAt w' y.M y.kind y.name y.value y.F → K (a.put o.dst v') w') :
    if Region.wanted o (yielded ops a.tmps) = true then Oper.wp Tryz.prog o a wc K Q else E := by
  obtain ⟨iM, hiM, hzM0, hzM1, hzM2⟩ := info_parts infoW8
  refine step_appA (P := Tryz.prog) (ops := ops) (o := o) (a := a) (K := K) (Q := Q) (E := E) wc hg s1 s2 78 ho w0.heap.size 163 iM _ 3 40 Tryz.underlying78 hiM hzM0 hzM1 hzM2 rfl (by decide) _ _ _ hs hP.two _ _ _ _ _ hx (row_one hr) (by simp [Value.oneCell']) (by unfold maxLen; omega) (by omega) hP.below.size ?_
  intro v' w' h1 h2 h3
  exact h v' w' (hP.push2 (x := x) h1 h2) (kinds_on hP.two h2) (hM.kinds (kinds_on hP.two h2))
end
end Go.Proofs.YthncochjhbmceaaGreat
