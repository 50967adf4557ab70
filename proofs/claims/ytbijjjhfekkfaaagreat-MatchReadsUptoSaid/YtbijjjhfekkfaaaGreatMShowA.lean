/- match.Show of a list of matchers, walked. Condition: the matchers are, their texts are not too long together. -/
import Derived.Test.YtbijjjhfekkfaaaGreatJoinB
import Derived.Test.YtbijjjhfekkfaaaGreatPkc6c90f11
import Derived.Test.YtbijjjhfekkfaaaGreatPk33371d00
namespace Go.Proofs.YtbijjjhfekkfaaaGreat
set_option maxRecDepth 1000000
open Go.RowKit

theorem infoStr8 : (Tryz.prog.info? 9).map (fun i => (i.zero, i.size, i.bytes)) = some (some (.string ⟨#[]⟩), 1, 16) := by kernel_rfl
theorem eql_mp8 (a : Addr) (w : World) : (binOp .eql 30 (.pointer (some a)) (.pointer none)).run Tryz.prog w = .ok (.bool false) w := by
  have h : ∀ d : Nat, (Op.equalIn (d + 1) 30 (.pointer (some a)) (.pointer none)).run Tryz.prog w = .ok false w := fun d => by
    simp [Op.equalIn, run_underlying Tryz.underlying30]
  simp only [binOp]
  simp [Op.equal, Op.maxDepth, h 9999]
def Mt.txt (x : Mt) : ByteArray := showM x.kind.toNat x.name x.value
theorem sizes_joinL : ∀ xs : List ByteArray, sizes xs ≤ (joinL xs).length
  | [] => Nat.le_refl _
  | x :: r => by
    have h : sizes r ≤ (r.flatMap fun y => 44 :: y.data.toList).length := by
      induction r with
      | nil => exact Nat.le_refl _
      | cons y r ih =>
        have e : y.data.toList.length = y.size := rfl
        simp only [List.flatMap_cons, List.length_append, List.length_cons, sizes, List.map_cons, List.sum_cons, e] at *
        omega
    have e : x.data.toList.length = x.size := rfl
    simp only [joinL, List.length_append, sizes, List.map_cons, List.sum_cons, e] at *
    omega
set_option maxHeartbeats 3200000 in
theorem mshows_any (A : Option Addr) (n c : Nat) (ms : List Mt) (w : World) (h : MtRow w A n ms) (hn : n ≤ 16777216) (_hnc : n ≤ c) (hk : ∀ x ∈ ms, 0 ≤ x.kind ∧ x.kind < 4 ∧ x.name.size ≤ 16777216 ∧ x.value.size ≤ 16777216) (hz : (joinL (ms.map Mt.txt)).length ≤ 1073741824) :
    Calls Tryz.prog 15 #[.slice A n c] w fun e w' => e = .returned (.string ⟨(joinL (ms.map Mt.txt)).toArray⟩) ∧ Below w.heap.size w w' := by
  obtain ⟨i0, hi, hz0, hz1, hz2⟩ := info_parts infoStr8
  have H := hidden h
  have HK := hidden hk
  have hml := h.len
  have heq := fun a => eql_mp8 a
  clear h hk
  go_enter Tryz.func15, Tryz.ntmps15
  go_wp2_with fail
  go_loopw [3, 8] (fun vo vi wr => ∃ k : Nat, vi = .int .i64 k ∧ k ≤ n ∧ Hid (wr.ownsRow w.heap.size 9 1 vo k ((ms.take k).map fun x => Value.string x.txt)) ∧ Hid (Below w.heap.size w wr)) (fun _ vi _ => n - (intOf vi).toNat)
  case atStart => exact ⟨0, rfl, Nat.zero_le _, hidden (World.ownsRow_nil _ _ _ _), hidden (Below.refl _ _)⟩
  case round =>
    obtain ⟨k, rfl, hk, ho, hb⟩ := hrel
    have k0 : (0 : Int) ≤ (k : Int) := by omega
    have hbs := hb.out.size
    by_cases hlt : k < n
    · have k1 : (k : Int) < (n : Int) := by omega
      have fwk : IntKind.i64.wrap ((k : Int) + 1) = (k : Int) + 1 := Go.IntWalk.i64_in _ (by omega)
      obtain ⟨g, o, x, rfl, hg, hx, ck, hM⟩ := mt_cell (H.out.on hb.out) hlt
      obtain ⟨kx0, kx1, kx2, kx3⟩ := HK.out x (List.mem_of_getElem? hx)
      rw [show x.kind = ((x.kind.toNat : Nat) : Int) by omega] at hM
      have S1 := hidden (mshow_any x.M x.kind.toNat x.name x.value x.F wr hM (by omega) (by omega) (by omega))
      have HT := hidden (show (ms.take (k + 1)).map (fun x => Value.string x.txt) = (ms.take k).map (fun x => Value.string x.txt) ++ [.string (showM x.kind.toNat x.name x.value)] from by rw [take_snoc? hx, List.map_append]; rfl)
      obtain ⟨A1, c1, e1, hc1, _⟩ := own_shape ho.out
      subst e1
      clear hx hM kx0 kx1 kx2 kx3
      go_wp2_with fail
      refine S1.out.mono ?_
      rintro e w2 ⟨rfl, b2⟩
      have HB2 := hidden (hb.out.trans (b2.mono hbs))
      have ho2 := own_below ho.out b2 (Nat.le_refl _)
      have hbs2 := HB2.out.size
      obtain ⟨T, hT⟩ : ∃ T, showM x.kind.toNat x.name x.value = T := ⟨_, rfl⟩
      rw [hT] at HT ⊢
      have hfr := Row.fresh w2 9 1 1 [.string T] rfl
      clear b2 hT S1
      go_wp2_with (at_builtin; refine wpList_app _ rfl _ _ 149 rfl w.heap.size 9 i0 _ 1 16 Tryz.underlying149 hi hz0 hz1 hz2 rfl (by decide) _ _ _ rfl (ho2.alloc _) _ _ _ _ _ rfl hfr (by simp [Value.oneCell']) (by unfold maxLen; omega) (by omega) (by simp; omega) ?_; intro v3 w3 hown3 hg3 hat3)
      have HB3 := hidden ((HB2.out.alloc hbs2 _).grown hg3 (by simp; omega) (fun j hj => (ho2.lt j hj).1))
      have HO3 := hidden hown3
      clear hown3 hg3 hat3 hfr ho2
      go_roundw
      case rel => exact ⟨k + 1, by go_num, by omega, by rw [HT.out]; exact HO3, HB3⟩
      case measure => simp [intOf]; omega
    · obtain rfl : n = k := by omega
      have hfl : ms.take n = ms := List.take_of_length_le (by omega)
      rw [hfl] at ho
      obtain ⟨A1, c1, e1, hc1, hr1⟩ := own_shape ho.out
      subst e1
      have hmm : ms.map (fun x => Value.string x.txt) = (ms.map Mt.txt).map Value.string := by rw [List.map_map]; rfl
      rw [hmm] at hr1
      have S2 := hidden (joinB_any A1 n c1 (ms.map Mt.txt) wr hr1 (by rw [List.length_map, hml]) hn (Nat.le_trans (sizes_joinL _) hz) hc1)
      clear hfl hmm hr1 ho
      go_wp2_with fail
      refine S2.out.mono ?_
      rintro e w2 ⟨rfl, b2⟩
      have HB2 := hidden (hb.out.trans (b2.mono hbs))
      clear b2
      go_wp2_with fail
      go_ret
      exact ⟨rfl, HB2.out⟩
end Go.Proofs.YtbijjjhfekkfaaaGreat
