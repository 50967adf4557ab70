/- Keys that are pointers: found by sameness, as long as what they point at lies. No program is walked here. -/
import Derived.Test.YtalnndenncnbdaaMapV
import Derived.LaidEqlPtr
namespace Go.Proofs.Ytalnndenncnbdaa
open Go.MapKept Go.ChangeMaps

/-- where the pointer points there is a block of cells -/
def Laid (w : World) (p : Option Addr) : Prop := ∀ a, p = some a → ∃ ca ta, w.heap[a.block]? = some (.cells ca ta (0, 0))
def IsPtr (v : Value) : Prop := ∃ p, v = .pointer p
def PtrKey (w : World) (v : Value) : Prop := ∃ p, v = .pointer p ∧ Laid w p
def IsPair (v : Value) : Prop := ∃ p q, v = .agg #[.pointer p, .pointer q]
def PairKey (w : World) (v : Value) : Prop := ∃ p q, v = .agg #[.pointer p, .pointer q] ∧ Laid w p ∧ Laid w q
section
variable {P : Program}
theorem run_equalIn_ptr (w : World) (d : Nat) {tp te : TypeId} {j : TypeInfo} (hp : P.underlying tp = some (.pointer te)) (hte : P.info? te = some j) (hsz : j.size ≠ 0) {p q : Option Addr} (h1 : Laid w p) (h2 : Laid w q) :
    ∃ r : Bool, (Op.equalIn (d + 1) tp (.pointer p) (.pointer q)).run P w = .ok r w ∧ (r = true ↔ p = q) := by
  cases p with
  | none => exact ⟨q.isNone, by simp [Op.equalIn, run_underlying hp], by cases q <;> simp⟩
  | some a =>
    cases q with
    | none => exact ⟨false, by simp [Op.equalIn, run_underlying hp], by simp⟩
    | some b =>
      by_cases e : a = b
      · subst e
        exact ⟨true, by simp [Op.equalIn, run_underlying hp, sizeOf, typeInfo, hte, run_sameAddr_same], by simp⟩
      · obtain ⟨ca, ta, ha⟩ := h1 a rfl
        obtain ⟨cb, tb, hb⟩ := h2 b rfl
        exact ⟨false, by simp [Op.equalIn, run_underlying hp, sizeOf, typeInfo, hte, hsz, run_sameAddr_other w e ha hb], by simp [e]⟩
theorem run_findAsking_eq (w : World) {k : TypeId} {T : Value → Prop} (heq : ∀ {x y : Value}, T x → T y → ∃ r : Bool, (Op.equal k x y).run P w = .ok r w ∧ (r = true ↔ x = y)) {x : Value} (hx : T x) :
    ∀ (es : List MapEntry) (i : Nat), (∀ e ∈ es, T e.key) →
      ((Instr.findAsking k x es i).run P w = .ok none w ∧ ∀ e ∈ es, e.key ≠ x) ∨
      ∃ j e, (Instr.findAsking k x es i).run P w = .ok (some (i + j, e.val)) w ∧ es[j]? = some e ∧ e.key = x
  | [], i, _ => .inl ⟨by simp [Instr.findAsking], by simp⟩
  | e :: es, i, hall => by
    obtain ⟨r, hr, hiff⟩ := heq hx (hall e (by simp))
    cases r
    · have hne : e.key ≠ x := fun h => by
        have := hiff.2 h.symm
        cases this
      rcases run_findAsking_eq w heq hx es (i + 1) (fun y hy => hall y (by simp [hy])) with ⟨h1, h2⟩ | ⟨j, e', h1, h2, h3⟩
      · left
        refine ⟨by simp [Instr.findAsking, hr, h1], fun y hy => ?_⟩
        rcases List.mem_cons.1 hy with rfl | hy
        · exact hne
        · exact h2 y hy
      · right
        exact ⟨j + 1, e', by simp [Instr.findAsking, hr, h1, Nat.add_assoc, Nat.add_comm 1 j], by simpa using h2, h3⟩
    · right
      exact ⟨0, e, by simp [Instr.findAsking, hr], rfl, (hiff.1 rfl).symm⟩
/-- keys of a type whose sameness is asked key by key -/
theorem find_asking (w : World) {k : TypeId} {d : TypeDesc} (hd : P.underlying k = some d) {T : Value → Prop} (hnow : ∀ x y, T x → T y → Instr.sameNow d x y = none)
    (heq : ∀ {x y : Value}, T x → T y → ∃ r : Bool, (Op.equal k x y).run P w = .ok r w ∧ (r = true ↔ x = y)) {x : Value} (hx : T x) (es : List MapEntry) (hall : ∀ e ∈ es, T e.key) :
    ((Instr.findKey k x es).run P w = .ok none w ∧ ∀ e ∈ es, e.key ≠ x) ∨ ∃ j e, (Instr.findKey k x es).run P w = .ok (some (j, e.val)) w ∧ es[j]? = some e ∧ e.key = x := by
  cases es with
  | nil => exact .inl ⟨by simp [Instr.findKey, run_underlying hd, Instr.findNow, Result.andThen], by simp⟩
  | cons e es =>
    have hn : Instr.findNow d x (e :: es) 0 = none := by
      unfold Instr.findNow
      rw [hnow x e.key hx (hall e (by simp))]
    have hf : (Instr.findKey k x (e :: es)).run P w = (Instr.findAsking k x (e :: es) 0).run P w := by
      simp [Instr.findKey, run_underlying hd, hn, Result.andThen]
    rcases run_findAsking_eq w heq hx (e :: es) 0 hall with ⟨h1, h2⟩ | ⟨j, e', h1, h2, h3⟩
    · exact .inl ⟨hf.trans h1, h2⟩
    · exact .inr ⟨j, e', by rw [hf, h1, Nat.zero_add], h2, h3⟩
theorem keyEq_ptr {k te : TypeId} {j : TypeInfo} (hk : P.underlying k = some (.pointer te)) (hte : P.info? te = some j) (hsz : j.size ≠ 0) : KeyEq P k PtrKey where
  check w em v h := by
    obtain ⟨p, rfl, _⟩ := h
    unfold Instr.checkKey
    simp only [Sem.run_bind, run_underlying hk, Result.andThen]
    rfl
  find w x h es hes := by
    refine find_asking w hk (T := PtrKey w) (fun x y hx hy => ?_) (fun {x y} hx hy => ?_) h es hes
    · obtain ⟨p, rfl, _⟩ := hx
      rfl
    · obtain ⟨p, rfl, h1⟩ := hx
      obtain ⟨q, rfl, h2⟩ := hy
      obtain ⟨r, hr, hi⟩ := run_equalIn_ptr w 9999 hk hte hsz h1 h2
      exact ⟨r, hr, hi.trans (by simp)⟩
  stays w v h := by
    obtain ⟨p, rfl, _⟩ := h
    have h : ∀ n, Instr.sameBits n (.pointer p) (.pointer p) = true := fun n => by cases n <;> simp [Instr.sameBits]
    unfold Instr.keyThatStays
    rw [if_pos (h 10000)]
    rfl
end
theorem Laid.below {w w' : World} {p : Option Addr} (h : Laid w p) (hb : ∀ g, g < w.heap.size → (∃ ca ta, w.heap[g]? = some (.cells ca ta (0, 0))) → ∃ ca ta, w'.heap[g]? = some (.cells ca ta (0, 0))) : Laid w' p := fun a e => by
  obtain ⟨ca, ta, hc⟩ := h a e
  exact hb _ (Array.getElem?_eq_some_iff.1 hc).1 ⟨ca, ta, hc⟩
end Go.Proofs.Ytalnndenncnbdaa
