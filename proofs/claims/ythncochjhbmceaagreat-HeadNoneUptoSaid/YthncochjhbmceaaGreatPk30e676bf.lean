/- (*post.Cursor).peek, walked: whatever source its cursor has. -/
import Derived.Test.YthncochjhbmceaaGreatPk7241a866
import Derived.Deep.RegionWith
namespace Go.Proofs.YthncochjhbmceaaGreat
set_option maxRecDepth 100000
open Go.RowKit Go.Shelf

def SeekOk (S : Src) : Prop := ∀ w v E F n, S w v E F → inI n → ∃ tid x f y, v = .iface tid x ∧ (∀ w, (method 485 tid x "almanac/post.seek").run Tryz.prog w = .ok (f, y) w) ∧ (∀ args w, (callFunc f args).run Tryz.prog w = .ok (.enter f args) w) ∧
  Calls Tryz.prog f #[y, .int .i64 n] w fun e w' => e = ansL (geL n E) ∧ S w' v (geL n E) F ∧ Kp F w w'
def PeekOk (S : Src) : Prop := ∀ w p E F n, CurOf S w p E F → inI n →
  Calls Tryz.prog 192 #[p, .int .i64 n] w fun e w' => e = ansL (geL n E) ∧ CurOf S w' p (geL n E) F ∧ Kp F w w'

set_option maxHeartbeats 3200000 in
theorem peek_go (b : Nat) (tid : TypeId) (x : Value) (fr n m a : Int) (ok : Bool) (f : FuncId) (y : Value) (w : World) (Q : World → World → Prop) (h : Whole1 w b 309 #[.iface tid x, .int .i64 fr, .bool false])
    (hm : ∀ w, (method 485 tid x "almanac/post.seek").run Tryz.prog w = .ok (f, y) w) (eg : ∀ args w, (callFunc f args).run Tryz.prog w = .ok (.enter f args) w) (hmx : (n < fr ∧ m = fr) ∨ (¬ n < fr ∧ m = n))
    (S1 : ∀ k, Calls Tryz.prog f #[y, .int .i64 m] (w.drewN k) fun e w' => e = .returned (.tuple #[.int .i64 a, .bool ok]) ∧ Q (w.drewN k) w') :
    Calls Tryz.prog 192 #[.pointer (some ⟨b, 0, none⟩), .int .i64 n] w fun e w' => e = .returned (.tuple #[.int .i64 a, .bool ok]) ∧ ∃ k, Q (w.drewN k) w' := by
  have c0 := h.cell 0
  have c1 := h.cell 1
  have c2 := h.cell 2
  go_enter Tryz.func192, Tryz.ntmps192
  rcases hmx with ⟨hnf, rfl⟩ | ⟨hnf, rfl⟩
  · have hmax : max n m = m := by omega
    go_wp2_with fail
    go_region_with (refine (S1 _).mono ?_; rintro e w1 ⟨rfl, hb1⟩)
    all_goals (go_wp2_with fail)
    all_goals go_ret2
    all_goals exact ⟨rfl, _, hb1⟩
  · have hmax : max m fr = m := by omega
    go_wp2_with fail
    go_region_with (refine (S1 _).mono ?_; rintro e w1 ⟨rfl, hb1⟩)
    all_goals (go_wp2_with fail)
    all_goals go_ret2
    all_goals exact ⟨rfl, _, hb1⟩

theorem ansL_two {L : List Int} : ∃ a ok, ansL L = .returned (.tuple #[.int .i64 a, .bool ok]) := by
  cases L with
  | nil => exact ⟨0, false, rfl⟩
  | cons x L => exact ⟨x, true, rfl⟩
set_option maxHeartbeats 800000 in
theorem peek_of {S : Src} (hF : FrameOk S) (hS : SeekOk S) : PeekOk S := by
  rintro w p E F n (⟨rfl, rfl, hF0⟩ | ⟨b, v, fr, dn, E0, F0, rfl, h1, h2, h3, h4, h5, rfl⟩) hn
  · go_enter Tryz.func192, Tryz.ntmps192
    go_wp2_with fail
    go_ret2
    exact ⟨rfl, .inl ⟨rfl, rfl, hF0⟩, Kp.refl _ _⟩
  · cases dn with
    | true =>
      have c0 := h1.cell 0
      have c1 := h1.cell 1
      have c2 := h1.cell 2
      go_enter Tryz.func192, Tryz.ntmps192
      go_wp2_with fail
      go_ret2
      exact ⟨rfl, .inr ⟨b, v, fr, true, E0, F0, rfl, h1, h2, h3, h4, h5, rfl⟩, Kp.refl _ _⟩
    | false =>
      obtain ⟨m, hm⟩ : ∃ m, (n < fr ∧ m = fr) ∨ (¬ n < fr ∧ m = n) := by
        by_cases h : n < fr
        · exact ⟨fr, .inl ⟨h, rfl⟩⟩
        · exact ⟨n, .inr ⟨h, rfl⟩⟩
      have hmax : max n fr = m := by omega
      have hmI : inI m := by unfold inI at *; omega
      obtain ⟨tid, x, f, y, rfl, q1, q2, _⟩ := hS w v E0 F0 m h3 hmI
      obtain ⟨a, ok, hans⟩ := ansL_two (L := geL m E0)
      refine (peek_go b tid x fr n m a ok f y w (fun w w' => S w' (.iface tid x) (geL m E0) F0 ∧ Kp F0 w w') h1 q1 q2 hm fun k => ?_).mono ?_
      · obtain ⟨tid', x', f', y', e0, e1, e2, e3⟩ := hS (w.drewN k) (.iface tid x) E0 F0 m (hF _ _ _ _ _ h3 (Nat.le_refl _) fun _ _ => rfl) hmI
        simp only [Value.iface.injEq] at e0
        obtain ⟨rfl, rfl⟩ := e0
        have e4 := (q1 w).symm.trans (e1 w)
        simp only [Result.ok.injEq, Prod.mk.injEq] at e4
        obtain ⟨⟨rfl, rfl⟩, _⟩ := e4
        exact e3.mono fun e w' ⟨g1, g2, g3⟩ => ⟨g1.trans hans, g2, g3⟩
      · rintro e w' ⟨rfl, k, g2, g3⟩
        have hk : Kp F0 w w' := ⟨g3.os, g3.tape, g3.output, g3.size, g3.block⟩
        have e5 : geL n (geL fr E0) = geL m E0 := by rw [geL_geL, hmax]
        refine ⟨?_, .inr ⟨b, .iface tid x, fr, false, geL m E0, F0, rfl, whole_keep h1 (hk.block b h1.lt h2), h2, g2, h4, h5, ?_⟩, hk.wider fun i hi => (h5 i).2 (.inr hi)⟩
        · simp only [Bool.false_eq_true, if_false]
          rw [e5]; exact hans.symm
        · simp only [Bool.false_eq_true, if_false]
          rw [e5]
          exact (geL_all fun z hz => by have := (mem_geL.1 hz).2; omega).symm
end Go.Proofs.YthncochjhbmceaaGreat
