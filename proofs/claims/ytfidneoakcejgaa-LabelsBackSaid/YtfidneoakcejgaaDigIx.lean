/- strings.IndexByte of any text; of the digits to the base 16. No condition. -/
import Derived.Test.YtfidneoakcejgaaUnqP
import Derived.Test.YtfidneoakcejgaaLabC
import Derived.Lib.Bytealg
namespace Go.Proofs.Ytfidneoakcejgaa
set_option maxRecDepth 100000
open Go.RowKit

theorem sindex_any (s : ByteArray) (b : UInt8) (w : World) : Calls Try.prog 59 #[.string s, .int .u8 (b.toNat : Int)] w fun e w' => e = .returned (.int .i64 (Lib.indexByte s.data.toList b)) ∧ w = w' := by
  have hb : ((b.toNat : Int).toNat).toUInt8 = b := by simp
  go_enter Try.func59, Try.ntmps59
  go_wp2
  rw [run_callFunc_extern Try.func102 (by kernel_rfl) (by kernel_rfl) (by kernel_rfl) (e := Extern.BytealgIndexByte.indexByte) (by kernel_rfl), Lib.run_indexByteString, hb]
  simp only [Result.andThen]
  rw [Oper.upon_value]
  go_wp2
  go_ret
  exact ⟨rfl, rfl⟩
def digits16 : ByteArray := ⟨#[48, 49, 50, 51, 52, 53, 54, 55, 56, 57, 97, 98, 99, 100, 101, 102]⟩
theorem digits_all : ∀ n : Fin 256, Lib.indexByte digits16.data.toList (UInt8.ofNat n.val) = if hexV (UInt8.ofNat n.val) < 16 then (hexV (UInt8.ofNat n.val) : Int) else -1 := by decide +kernel
theorem digits_ix (b : UInt8) : Lib.indexByte digits16.data.toList b = if hexV b < 16 then (hexV b : Int) else -1 := by
  have h := digits_all ⟨b.toNat, b.toNat_lt⟩
  simpa using h
end Go.Proofs.Ytfidneoakcejgaa
