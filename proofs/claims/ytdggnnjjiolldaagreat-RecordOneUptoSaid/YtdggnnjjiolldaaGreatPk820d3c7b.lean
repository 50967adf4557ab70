/- almanaclaw15.turned, walked; turns that came in, opened. Condition: the arguments are within the bulk that the statement names. -/
import Derived.Test.YtdggnnjjiolldaaGreatPkc63d8a15
namespace Go.Proofs.YtdggnnjjiolldaaGreat
set_option maxRecDepth 100000
open Go.RowKit Go.WideShapes Go.ChangeShapes Go.Shelf

/-- a turn, as it lies -/
structure Trn where
  at_ : Int
  out : Int
  ins : ByteArray
def Trn.cells (x : Trn) : List Value := [.int .i64 x.at_, .int .i64 x.out, .string x.ins]
theorem trnK (x : Trn) : x.cells.length = 3 := rfl
instance : Inhabited Trn := ⟨⟨0, 0, ByteArray.empty⟩⟩
section
variable {H : Type} {enc : TypeId × Value → H} {W : World} {b : Nat}
theorem opens_trn : OpensB enc Tryz.prog W b 97 Trn.cells (fun x => -9223372036854775808 ≤ x.at_ ∧ x.at_ ≤ 9223372036854775807 ∧ -9223372036854775808 ≤ x.out ∧ x.out ≤ 9223372036854775807) (fun x => x.ins.size) := by
  intro fuel cs x h hf
  obtain ⟨n, ys, hl, hyl, hbs, hp⟩ := open_ones_b Tryz.underlying97 (by kernel_rfl) (by kernel_rfl) h hf
  obtain ⟨u0, y0, c0, _, t0, f0⟩ := hp 0 _ rfl
  obtain ⟨u1, y1, c1, _, t1, f1⟩ := hp 1 _ rfl
  obtain ⟨u2, y2, c2, k2, t2, f2⟩ := hp 2 _ rfl
  obtain ⟨s0, e0, g0⟩ := opens_int Tryz.underlying3 _ _ _ t0 f0
  obtain ⟨s1, e1, g1⟩ := opens_int Tryz.underlying3 _ _ _ t1 f1
  obtain ⟨s2, e2, hx, hw⟩ := DataW.trod_string Tryz.underlying9 t2
  simp only [List.cons.injEq, and_true] at e0 e1 e2
  subst e0 e1 e2
  have w0 := wf_i64R g0
  have w1 := wf_i64R g1
  have hb2 := bulk_mem (List.mem_map_of_mem (f := Prod.fst) (List.mem_of_getElem? k2))
  have hb3 : s2.size ≤ Rows.uptoBulk y2.1 := by
    rw [hx]
    simp [Rows.uptoBulk]
  match cs, hl with
  | [a, c, d], _ =>
    simp only [List.getElem?_cons_zero, List.getElem?_cons_succ, Option.some.injEq] at c0 c1 c2
    exact ⟨⟨s0, s1, s2⟩, by rw [c0, c1, c2]; rfl, ⟨w0.1, w0.2, w1.1, w1.2⟩, by simp only; omega⟩
end

set_option maxHeartbeats 3200000 in
theorem turned_any (S : ByteArray) (A : Option Addr) (n c : Nat) (l : List Trn) (w : World) (hr : Row w w.heap.size 3 A n (l.flatMap Trn.cells)) (hl : l.length = n) (hn : n ≤ 1048576) (hS : S.size ≤ 4000000000) (hs : (l.map fun x => x.ins.size).sum ≤ 1048576) (hb : ∀ x ∈ l, -9223372036854775808 ≤ x.at_ ∧ x.at_ ≤ 9223372036854775807 ∧ -9223372036854775808 ≤ x.out ∧ x.out ≤ 9223372036854775807) :
    Calls Tryz.prog 11 #[.string S, .slice A n c] w fun e w' => ∃ T : ByteArray, e = .returned (.string T) ∧ T.size ≤ S.size + 1048576 ∧ Below w.heap.size w w' := by
  have HR := hidden hr
  have HL := hidden hl
  have HBY := hidden hb
  have HSM := hidden hs
  clear hr hl hb hs
  go_enter Tryz.func11, Tryz.ntmps11
  go_wp2_with fail
  go_loopw [0, 11] (fun vt vi wr => ∃ (k : Nat) (T : ByteArray), k ≤ n ∧ vt = .string T ∧ vi = .int .i64 k ∧ Hid (T.size ≤ S.size + ((l.take k).map fun x => x.ins.size).sum) ∧ Hid (Below w.heap.size w wr)) (fun _ vi _ => n - (intOf vi).toNat)
  case atStart => exact ⟨0, S, Nat.zero_le _, rfl, rfl, hidden (by simp), hidden (Below.refl _ _)⟩
  case round =>
    obtain ⟨k, T, hkn, rfl, rfl, hT, hB⟩ := hrel
    have k0 : (0 : Int) ≤ (k : Int) := by omega
    by_cases hlt : k < n
    · have k1 : (k : Int) < (n : Int) := by omega
      obtain ⟨gs, o, x, rfl, _, hx, hcl⟩ := row_at trnK (HR.out.below hB.out) HL.out k hlt
      have c0 : wr.cell? ⟨gs, o + k * 3, none⟩ = some (.int .i64 x.at_) := hcl 0 (by omega)
      have c1 : wr.cell? ⟨gs, o + k * 3 + 1, none⟩ = some (.int .i64 x.out) := hcl 1 (by omega)
      have c2 : wr.cell? ⟨gs, o + k * 3 + 2, none⟩ = some (.string x.ins) := hcl 2 (by omega)
      have HXI := hidden (HBY.out x (List.mem_of_getElem? hx))
      have HTK := hidden (show ((l.take (k + 1)).map fun x => x.ins.size).sum = ((l.take k).map fun x => x.ins.size).sum + x.ins.size by rw [take_snoc? hx]; simp)
      have hle : ((l.take (k + 1)).map fun x => x.ins.size).sum ≤ (l.map fun x => x.ins.size).sum := by
        conv => rhs; rw [← List.take_append_drop (k + 1) l, List.map_append, List.sum_append]
        omega
      have HLE := hidden (Nat.le_trans hle HSM.out)
      obtain ⟨p, hp, hp1⟩ : ∃ p : Nat, max 0 (min x.at_ (T.size : Int)) = (p : Int) ∧ p ≤ T.size := ⟨(max 0 (min x.at_ (T.size : Int))).toNat, by omega, by omega⟩
      obtain ⟨m, hm, hm1⟩ : ∃ m : Nat, max 0 (min x.out ((T.size : Int) - (p : Int))) = (m : Int) ∧ p + m ≤ T.size := ⟨(max 0 (min x.out ((T.size : Int) - (p : Int)))).toNat, by omega, by omega⟩
      have hts : T.size ≤ 4001048576 := by
        have h1 := hT.out
        have h2 := HTK.out
        have h3 := HLE.out
        omega
      clear hx hcl hle
      go_wp2_with fail
      have hY := Whole1.new wr 97 #[.int .i64 x.at_, .int .i64 x.out, .string x.ins]
      have hbA : Below wr.heap.size wr (wr.alloc (.cells #[.int .i64 x.at_, .int .i64 x.out, .string x.ins] 97)) := (Below.refl _ _).alloc (Nat.le_refl _) _
      generalize wr.alloc (.cells #[.int .i64 x.at_, .int .i64 x.out, .string x.ins] 97) = wa at hY hbA ⊢
      have HBA := hidden (hB.out.trans (hbA.mono hB.out.size))
      obtain ⟨Y, hYe⟩ : ∃ Y, wr.heap.size = Y := ⟨_, rfl⟩
      rw [hYe] at hY ⊢
      have y2 := hY.cell 2
      have HXI2 := hidden (show x.ins.size ≤ 1048576 by have h2 := HTK.out; have h3 := HLE.out; omega)
      clear c0 c1 c2 hbA hY hYe
      have hxs := HXI2.out
      go_quiet (fail)
      go_wp2_with fail
      refine ⟨⟨k + 1, T.extract 0 p ++ x.ins ++ T.extract (p + m) T.size, by omega, rfl, rfl, hidden ?_, hidden (below_drewN HBA.out nq)⟩, by simp only [intOf]; omega⟩
      have h1 := hT.out
      have h2 := HTK.out
      simp only [ByteArray.size_append, ByteArray.size_extract]
      omega
    · obtain rfl : n = k := by omega
      have hle := hT.out
      rw [List.take_of_length_le (by rw [HL.out]; exact Nat.le_refl _)] at hle
      have HT2 := hidden (Nat.le_trans hle (Nat.add_le_add_left HSM.out _))
      clear hle
      go_wp2_with fail
      go_ret
      exact ⟨T, rfl, HT2.out, hB.out⟩
end Go.Proofs.YtdggnnjjiolldaaGreat
