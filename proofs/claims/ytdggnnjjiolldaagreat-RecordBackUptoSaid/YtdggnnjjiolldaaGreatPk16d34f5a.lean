/- labels.Quote, walked: a text in quotation marks. Condition: the text is within the reach. -/
import Derived.Test.YtdggnnjjiolldaaGreatPka150b50f
import Derived.Test.YtdggnnjjiolldaaGreatPk10a58e19
import Derived.Test.YtdggnnjjiolldaaGreatPkcbb96029
import Derived.Deep.RegionHeld3
namespace Go.Proofs.YtdggnnjjiolldaaGreat
set_option maxRecDepth 100000
open Go.RowKit

theorem bytes_one (b : UInt8) : Lib.byteCells [b] = [.int .u8 (b.toNat : Int)] := by
  have := byteCells_one b.toNat_lt
  simpa using this
theorem hexs : ∀ (H L : Fin 16), ((⟨#[92, 120]⟩ : ByteArray) ++ (⟨#[48, 49, 50, 51, 52, 53, 54, 55, 56, 57, 97, 98, 99, 100, 101, 102]⟩ : ByteArray).extract H.val (H.val + 1) ++ (⟨#[48, 49, 50, 51, 52, 53, 54, 55, 56, 57, 97, 98, 99, 100, 101, 102]⟩ : ByteArray).extract L.val (L.val + 1)).data.toList = [92, 120, hexD H.val, hexD L.val] := by decide +kernel
theorem hexs_of {H L : Nat} (h : H < 16) (l : L < 16) : ((⟨#[92, 120]⟩ : ByteArray) ++ (⟨#[48, 49, 50, 51, 52, 53, 54, 55, 56, 57, 97, 98, 99, 100, 101, 102]⟩ : ByteArray).extract H (H + 1) ++ (⟨#[48, 49, 50, 51, 52, 53, 54, 55, 56, 57, 97, 98, 99, 100, 101, 102]⟩ : ByteArray).extract L (L + 1)) = ⟨[92, 120, hexD H, hexD L].toArray⟩ :=
  bytes_eq (hexs ⟨H, h⟩ ⟨L, l⟩)
theorem ext_ones : ∀ H : Fin 16, ((⟨#[48, 49, 50, 51, 52, 53, 54, 55, 56, 57, 97, 98, 99, 100, 101, 102]⟩ : ByteArray).extract H.val (H.val + 1)).size = 1 := by decide +kernel
theorem ext_one {H : Nat} (h : H < 16) : ((⟨#[48, 49, 50, 51, 52, 53, 54, 55, 56, 57, 97, 98, 99, 100, 101, 102]⟩ : ByteArray).extract H (H + 1)).size = 1 := ext_ones ⟨H, h⟩
theorem and15s : ∀ n : Fin 256, bits .and .u8 ((n.val : Nat) : Int) 15 = ((n.val % 16 : Nat) : Int) := by decide +kernel
theorem and15 (b : UInt8) : bits .and .u8 (b.toNat : Int) 15 = ((b.toNat % 16 : Nat) : Int) := and15s ⟨b.toNat, b.toNat_lt⟩
theorem strCells_list (l : List UInt8) : Lib.strCells ⟨l.toArray⟩ = Lib.byteCells l := by
  simp [Lib.strCells, Lib.byteCells]
end Go.Proofs.YtdggnnjjiolldaaGreat
