/- When a set of bytes is empty. No condition. -/
import Derived.Test.YtalnndenncnbdaaTrM
import Derived.ChangeKeysEq
import Derived.Laws.StructEq
namespace Go.Proofs.Ytalnndenncnbdaa
set_option maxRecDepth 100000
open Go.RowKit

theorem part_int {P : Program} (w : World) {e : TypeId} {k : IntKind} (he : P.underlying e = some (.int k)) {xs : Array Value} {off : Nat} {v : Value} (hx : xs[off]? = some v) : (part e xs off).run P w = .ok v w := by
  simp [part, isAgg, run_underlying he, hx]
theorem infoU : (Try.prog.info? 96).map (fun i => i.size) = some 1 := by kernel_rfl
theorem eq_set (a b c d : Nat) (w : World) : (Op.equalIn 10000 98 (.agg #[.int .u64 (a : Int), .int .u64 (b : Int), .int .u64 (c : Int), .int .u64 (d : Int)]) (.agg #[.int .u64 0, .int .u64 0, .int .u64 0, .int .u64 0])).run Try.prog w = .ok (BS.isZero ⟨a, b, c, d⟩) w := by
  obtain ⟨i, hi, hs⟩ := Option.map_eq_some_iff.1 infoU
  have hc : Try.prog.cellsOf 96 = 1 := by kernel_rfl
  rw [run_equalIn_array w 9999 _ _ Try.underlying98 hi, hc, show List.range 4 = [0, 1, 2, 3] from rfl]
  by_cases ha : a = 0 <;> by_cases hb : b = 0 <;> by_cases hc0 : c = 0 <;> by_cases hd : d = 0 <;> simp [Op.eqItems, part_int w Try.underlying96, run_equalIn_int w _ _ _ _ _ _ Try.underlying96, Result.andThen, BS.isZero, ha, hb, hc0, hd]
end Go.Proofs.Ytalnndenncnbdaa
