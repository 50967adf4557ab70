/- Keys that are structs of two pointers: found by sameness, as long as what they point at lies. No program is walked here. -/
import Derived.Test.YtalnndenncnbdaaMapK
import Derived.Test.YtalnndenncnbdaaBase
import Derived.Laws.StructEq
namespace Go.Proofs.Ytalnndenncnbdaa
set_option maxRecDepth 100000
open Go.MapKept Go.ChangeMaps

section
variable {P : Program}
theorem part_ptr (w : World) {e te : TypeId} (he : P.underlying e = some (.pointer te)) {xs : Array Value} {off : Nat} {v : Value} (hx : xs[off]? = some v) : (part e xs off).run P w = .ok v w := by
  simp [part, isAgg, run_underlying he, hx]
/-- a struct of two fields that are pointers -/
structure TwoPtr (P : Program) (k tp tq : TypeId) (fs : Array Field) : Prop where
  und : P.underlying k = some (.struct fs)
  fields : fs.toList.map (fun f => (f.name != "_", f.type, f.offset)) = [(true, tp, 0), (true, tq, 1)]
  free : P.stoodInHeld k = false
theorem two_list {k tp tq : TypeId} {fs : Array Field} (h : TwoPtr P k tp tq fs) : ∃ f g, fs.toList = [f, g] ∧ f.name ≠ "_" ∧ f.type = tp ∧ f.offset = 0 ∧ g.name ≠ "_" ∧ g.type = tq ∧ g.offset = 1 := by
  have h1 := h.fields
  match hl : fs.toList, h1 with
  | [], h1 => simp at h1
  | [_], h1 => simp at h1
  | _ :: _ :: _ :: _, h1 => simp at h1
  | [f, g], h1 =>
    simp only [List.map_cons, List.map_nil, List.cons.injEq, Prod.mk.injEq, bne_iff_ne, ne_eq, and_true] at h1
    exact ⟨f, g, rfl, h1.1.1, h1.1.2.1, h1.1.2.2, h1.2.1, h1.2.2.1, h1.2.2.2⟩
theorem keyEq_pair {k tp tq te tf : TypeId} {i j : TypeInfo} {fs : Array Field} (h : TwoPtr P k tp tq fs) (hp : P.underlying tp = some (.pointer te)) (hq : P.underlying tq = some (.pointer tf)) (hte : P.info? te = some i) (htf : P.info? tf = some j) (hi : i.size ≠ 0) (hj : j.size ≠ 0) : KeyEq P k PairKey where
  check w em v hv := by
    obtain ⟨p, q, rfl, _⟩ := hv
    obtain ⟨f, g, hl, f1, f2, f3, g1, g2, g3⟩ := two_list h
    have c0 : ∀ (n : Nat) (t te : TypeId) (x : Option Addr), P.underlying t = some (.pointer te) → (Instr.checkKey em (n + 1) t (.pointer x)).run P w = .ok () w := fun n t te x ht => by
      unfold Instr.checkKey
      simp only [Sem.run_bind, run_underlying ht, Result.andThen]
      rfl
    have k1 : (Instr.checkKey em 9999 tp (.pointer p)).run P w = .ok () w := c0 9998 tp te p hp
    have k2 : (Instr.checkKey em 9999 tq (.pointer q)).run P w = .ok () w := c0 9998 tq tf q hq
    unfold Instr.checkKey
    simp only [Sem.run_bind, run_underlying h.und, Result.andThen_ok]
    rw [← Array.forIn_toList, hl]
    simp only [List.forIn_cons, List.forIn_nil, Sem.run_bind, f1, g1, ne_eq, not_false_eq_true, if_true, f2, f3, g2, g3, part_ptr w hp (xs := #[.pointer p, .pointer q]) (off := 0) (v := .pointer p) rfl, part_ptr w hq (xs := #[.pointer p, .pointer q]) (off := 1) (v := .pointer q) rfl, Result.andThen_ok, k1, k2, Sem.run_pure]
  find w x hx es hes := by
    refine find_asking w h.und (T := PairKey w) (fun x y hx hy => ?_) (fun {x y} hx hy => ?_) hx es hes
    · obtain ⟨p, q, rfl, _⟩ := hx
      rfl
    · obtain ⟨p, q, rfl, h1, h2⟩ := hx
      obtain ⟨p', q', rfl, h1', h2'⟩ := hy
      obtain ⟨f, g, hl, f1, f2, f3, g1, g2, g3⟩ := two_list h
      obtain ⟨r, hr, ri⟩ := run_equalIn_ptr w 9998 hp hte hi h1 h1'
      obtain ⟨s, hs, si⟩ := run_equalIn_ptr w 9998 hq htf hj h2 h2'
      have hr' : (Op.equalIn 9999 tp (.pointer p) (.pointer p')).run P w = .ok r w := hr
      have hs' : (Op.equalIn 9999 tq (.pointer q) (.pointer q')).run P w = .ok s w := hs
      have hfo : P.fieldsOf k = fs := by simp [Program.fieldsOf, h.und]
      have hrun : (Op.equal k (.agg #[.pointer p, .pointer q]) (.agg #[.pointer p', .pointer q'])).run P w = .ok (r && s) w := by
        unfold Op.equal Op.maxDepth
        rw [run_equalIn_struct w 9999 k _ _ (by rw [hfo]; exact h.und) h.free, hfo, hl]
        simp only [Op.eqFields, f1, g1, ne_eq, not_false_eq_true, if_true, Sem.run_bind, f2, f3, g2, g3, part_ptr w hp (xs := #[.pointer p, .pointer q]) (off := 0) (v := .pointer p) rfl,
          part_ptr w hp (xs := #[.pointer p', .pointer q']) (off := 0) (v := .pointer p') rfl, Result.andThen_ok, hr']
        have e1 := part_ptr w hq (xs := #[.pointer p, .pointer q]) (off := 1) (v := .pointer q) rfl
        have e2 := part_ptr w hq (xs := #[.pointer p', .pointer q']) (off := 1) (v := .pointer q') rfl
        cases r <;> cases s <;> simp [e1, e2, hs']
      refine ⟨r && s, hrun, ?_⟩
      rw [Bool.and_eq_true, ri, si]
      simp
  stays w v hv := by
    obtain ⟨p, q, rfl, _⟩ := hv
    have e1 : ∀ (n : Nat) (p : Option Addr), Instr.sameBits n (.pointer p) (.pointer p) = true := fun n p => by cases n <;> simp [Instr.sameBits]
    have h : Instr.sameBits 10000 (.agg #[.pointer p, .pointer q]) (.agg #[.pointer p, .pointer q]) = true := by
      rw [Instr.sameBits]
      simp [e1]
    unfold Instr.keyThatStays
    rw [if_pos h]
    rfl
end
theorem restTwo : ∃ fs, TwoPtr Try.prog 70 46 67 fs :=
  ⟨_, Try.underlying70, by kernel_rfl, by kernel_rfl⟩
theorem infoNode : (Try.prog.info? 101).map (fun i => i.size) = some 6 := by kernel_rfl
theorem infoRest : (Try.prog.info? 70).map (fun i => i.size) = some 2 := by kernel_rfl
theorem info_size {P : Program} {t : TypeId} {n : Nat} (h : (P.info? t).map (fun i => i.size) = some n) : ∃ i, P.info? t = some i ∧ i.size = n := by
  obtain ⟨i, h1, h2⟩ := Option.map_eq_some_iff.1 h
  exact ⟨i, h1, h2⟩
theorem keyRest : KeyEq Try.prog 70 PairKey := by
  obtain ⟨fs, h⟩ := restTwo
  obtain ⟨i, hi, h1⟩ := info_size infoNode
  obtain ⟨j, hj, h2⟩ := info_size infoRest
  exact keyEq_pair h Try.underlying46 Try.underlying67 hi hj (by omega) (by omega)
theorem keyNode : KeyEq Try.prog 46 PtrKey := by
  obtain ⟨i, hi, h1⟩ := info_size infoNode
  exact keyEq_ptr Try.underlying46 hi (by omega)
theorem keyPtrRest : KeyEq Try.prog 67 PtrKey := by
  obtain ⟨j, hj, h2⟩ := info_size infoRest
  exact keyEq_ptr Try.underlying67 hj (by omega)
end Go.Proofs.Ytalnndenncnbdaa
