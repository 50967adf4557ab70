/- The library's contracts at this program's numbers: laid plainly by the kit's lay-plain. -/
import Derived.Test.YtjklonfheenfbaaBase
import Derived.Shelf.Sort.Plain
import Derived.Ground.Names2Prog
import Derived.Shelf.Slices.Clone
import Derived.Shelf.Slices.CompactI
import Derived.Shelf.Slices.SearchI
import Derived.Shelf.Slices.Cells
import Derived.Shelf.Slices.In.SortNone
import Derived.Shelf.Slices.Empties
namespace Go.Proofs.Ytjklonfheenfbaa
set_option maxRecDepth 100000
open Go Go.Shelf Go.Sort Go.RowKit
def lays189_ren : Go.Shelf.Ren := ⟨fun | 189 => 83 | 125 => 95 | 257 => 101 | 128 => 132 | 129 => 133 | 294 => 135 | 295 => 136 | 296 => 137 | 297 => 138 | 298 => 139 | 299 => 140 | 216 => 141 | 300 => 142 | 301 => 143 | 328 => 168 | 329 => 164 | 330 => 165 | 331 => 169 | 332 => 170 | 215 => 171 | 343 => 178 | n => n, fun | 28 => 69 | 3 => 3 | 46 => 169 | 0 => 0 | 51 => 206 | 53 => 43 | 4 => 4 | 183 => 200 | 182 => 199 | 131 => 74 | 5 => 5 | 9 => 9 | 218 => 233 | 222 => 237 | 228 => 249 | 229 => 250 | n => n, fun | n => n⟩
theorem lays189 : Go.Proofs.Lays.n189 Try.prog lays189_ren := {
  mixed := by kernel_rfl
  f125 := Try.func95.trans (congrArg some (by kernel_rfl))
  f128 := Try.func132.trans (congrArg some (by kernel_rfl))
  f129 := Try.func133.trans (congrArg some (by kernel_rfl))
  f189 := Try.func83.trans (congrArg some (by kernel_rfl))
  f215 := Try.func171.trans (congrArg some (by kernel_rfl))
  f216 := Try.func141.trans (congrArg some (by kernel_rfl))
  f257 := Try.func101.trans (congrArg some (by kernel_rfl))
  f294 := Try.func135.trans (congrArg some (by kernel_rfl))
  f295 := Try.func136.trans (congrArg some (by kernel_rfl))
  f296 := Try.func137.trans (congrArg some (by kernel_rfl))
  f297 := Try.func138.trans (congrArg some (by kernel_rfl))
  f298 := Try.func139.trans (congrArg some (by kernel_rfl))
  f299 := Try.func140.trans (congrArg some (by kernel_rfl))
  f300 := Try.func142.trans (congrArg some (by kernel_rfl))
  f301 := Try.func143.trans (congrArg some (by kernel_rfl))
  f328 := Try.func168.trans (congrArg some (by kernel_rfl))
  f329 := Try.func164.trans (congrArg some (by kernel_rfl))
  f330 := Try.func165.trans (congrArg some (by kernel_rfl))
  f331 := Try.func169.trans (congrArg some (by kernel_rfl))
  f332 := Try.func170.trans (congrArg some (by kernel_rfl))
  f343 := Try.func178.trans (congrArg some (by kernel_rfl))
  t0 := Try.underlying0
  a0 := Try.isAgg0
  z0 := Try.sizeOf0
  v0 := Try.zeroValue0
  t3 := Try.underlying3
  a3 := Try.isAgg3
  z3 := Try.sizeOf3
  v3 := Try.zeroValue3
  t4 := Try.underlying4
  a4 := Try.isAgg4
  z4 := Try.sizeOf4
  v4 := Try.zeroValue4
  t5 := Try.underlying5
  a5 := Try.isAgg5
  z5 := Try.sizeOf5
  v5 := Try.zeroValue5
  t9 := Try.underlying9
  a9 := Try.isAgg9
  z9 := Try.sizeOf9
  v9 := Try.zeroValue9
  t28 := Try.underlying69
  a28 := Try.isAgg69
  z28 := Try.sizeOf69
  v28 := Try.zeroValue69
  t46 := Try.underlying169
  a46 := Try.isAgg169
  z46 := Try.sizeOf169
  v46 := Try.zeroValue169
  t51 := Try.underlying206
  a51 := Try.isAgg206
  z51 := Try.sizeOf206
  v51 := Try.zeroValue206
  t53 := Try.underlying43
  a53 := Try.isAgg43
  z53 := Try.sizeOf43
  v53 := Try.zeroValue43
  t131 := Try.underlying74
  a131 := Try.isAgg74
  z131 := Try.sizeOf74
  v131 := Try.zeroValue74
  t182 := Try.underlying199
  a182 := Try.isAgg199
  z182 := Try.sizeOf199
  v182 := Try.zeroValue199
  t183 := Try.underlying200
  a183 := Try.isAgg200
  z183 := Try.sizeOf200
  v183 := Try.zeroValue200
  t218 := Try.underlying233
  a218 := Try.isAgg233
  z218 := Try.sizeOf233
  v218 := Try.zeroValue233
  t222 := Try.underlying237
  a222 := Try.isAgg237
  z222 := Try.sizeOf237
  v222 := Try.zeroValue237
  t228 := Try.underlying249
  a228 := Try.isAgg249
  z228 := Try.sizeOf249
  v228 := Try.zeroValue249
  t229 := Try.underlying250
  a229 := Try.isAgg250
  z229 := Try.sizeOf250
  v229 := Try.zeroValue250 }
theorem slices_Sort_int (blk off cap : Nat) (zs : List Int) (w : World) (hH : Holds (Value.int .i64) w blk off zs.toArray) (hblk : blk < w.heap.size) (hsz : zs.length < 4611686018427387904) :
    Calls Try.prog 83 #[.slice (some ⟨blk, off, none⟩) zs.length cap] w fun e w' =>
      e = .returned (.tuple #[]) ∧ ∃ n os, w' = grow (putRow (Value.int .i64) (Sort.ahead w n) blk off (zs.mergeSort fun x y => decide (x ≤ y)).toArray) os := Any.slices_Sort_int lays189 blk off cap zs w hH hblk hsz
def laysNm215_ren : Go.Shelf.Ren := ⟨fun | 15 => 82 | n => n, fun | 22 => 69 | 3 => 3 | 4 => 4 | n => n, fun | n => n⟩
theorem laysNm215 : Go.Proofs.Lays2.n15 Try.prog laysNm215_ren := {
  mixed := by kernel_rfl
  f15 := Try.func82.trans (congrArg some (by kernel_rfl))
  t3 := Try.underlying3
  a3 := Try.isAgg3
  z3 := Try.sizeOf3
  v3 := Try.zeroValue3
  t4 := Try.underlying4
  a4 := Try.isAgg4
  z4 := Try.sizeOf4
  v4 := Try.zeroValue4
  t22 := Try.underlying69
  a22 := Try.isAgg69
  z22 := Try.sizeOf69
  v22 := Try.zeroValue69
  i3 := by kernel_rfl }
theorem slices_Clone_int (b off n c : Nat) (zs : List Int) (w : World) (hz : n ≤ zs.length) (hbig : n * 8 ≤ 140737488355328) (hc : ∀ j, j < zs.length → w.cell? ⟨b, off + j, none⟩ = some (.int .i64 (zs.getD j 0))) :
    Calls Try.prog 82 #[.slice (some ⟨b, off, none⟩) n c] w fun e w' => ∃ v', e = .returned v' ∧ w'.ownsRow w.heap.size 3 1 v' n ((zs.take n).map (Value.int .i64)) ∧ v' ≠ .slice none 0 0 ∧ Below w.heap.size w w' := Any.slices_Clone_int laysNm215 b off n c zs w hz hbig hc
theorem slices_Clone_int_nil (n c : Nat) (w : World) :
    Calls Try.prog 82 #[.slice none n c] w fun e w' => e = .returned (.slice none 0 0) ∧ w' = w := Any.slices_Clone_int_nil laysNm215 n c w
theorem slices_Clone_int_zero (a : Addr) (c : Nat) (w : World) :
    Calls Try.prog 82 #[.slice (some a) 0 c] w fun e w' => ∃ v', e = .returned v' ∧ w'.ownsRow w.heap.size 3 1 v' 0 [] ∧ v' ≠ .slice none 0 0 ∧ Below w.heap.size w w' := Any.slices_Clone_int_zero laysNm215 a c w
def laysNm220_ren : Go.Shelf.Ren := ⟨fun | 20 => 85 | n => n, fun | 22 => 69 | 3 => 3 | 4 => 4 | 0 => 0 | n => n, fun | n => n⟩
theorem laysNm220 : Go.Proofs.Lays2.n20 Try.prog laysNm220_ren := {
  mixed := by kernel_rfl
  f20 := Try.func85.trans (congrArg some (by kernel_rfl))
  t0 := Try.underlying0
  a0 := Try.isAgg0
  z0 := Try.sizeOf0
  v0 := Try.zeroValue0
  t3 := Try.underlying3
  a3 := Try.isAgg3
  z3 := Try.sizeOf3
  v3 := Try.zeroValue3
  t4 := Try.underlying4
  a4 := Try.isAgg4
  z4 := Try.sizeOf4
  v4 := Try.zeroValue4
  t22 := Try.underlying69
  a22 := Try.isAgg69
  z22 := Try.sizeOf69
  v22 := Try.zeroValue69
  i3 := by kernel_rfl }
theorem slices_Compact_int (blk off cap : Nat) (zs : List Int) (w : World) (hH : Holds (Value.int .i64) w blk off zs.toArray) (hsz : zs.length ≤ 9223372036854775807) (hcap : zs.length ≤ cap) :
    Calls Try.prog 85 #[.slice (some ⟨blk, off, none⟩) zs.length cap] w fun e w' => e = .returned (.slice (some ⟨blk, off, none⟩) (Lib.compact zs).length cap) ∧ ∃ q, w' = putRow (Value.int .i64) (Sort.ahead w q) blk off (Lib.compact zs ++ List.replicate (zs.length - (Lib.compact zs).length) 0).toArray := Any.slices_Compact_int laysNm220 blk off cap zs w hH hsz hcap
theorem slices_Compact_int_empty (a : Option Addr) (cap : Nat) (w : World) :
    Calls Try.prog 85 #[.slice a 0 cap] w fun e w' => e = .returned (.slice a 0 cap) ∧ w' = w := Any.slices_Compact_int_empty laysNm220 a cap w
def laysNm237_ren : Go.Shelf.Ren := ⟨fun | 37 => 171 | n => n, fun | 3 => 3 | 4 => 4 | n => n, fun | n => n⟩
theorem laysNm237 : Go.Proofs.Lays2.n37 Try.prog laysNm237_ren := {
  mixed := by kernel_rfl
  f37 := Try.func171.trans (congrArg some (by kernel_rfl))
  t3 := Try.underlying3
  a3 := Try.isAgg3
  z3 := Try.sizeOf3
  v3 := Try.zeroValue3
  t4 := Try.underlying4
  a4 := Try.isAgg4
  z4 := Try.sizeOf4
  v4 := Try.zeroValue4 }
def laysNm232_ren : Go.Shelf.Ren := ⟨fun | 32 => 209 | n => n, fun | 3 => 3 | 4 => 4 | n => n, fun | n => n⟩
theorem laysNm232 : Go.Proofs.Lays2.n32 Try.prog laysNm232_ren := {
  mixed := by kernel_rfl
  f32 := Try.func209.trans (congrArg some (by kernel_rfl))
  t3 := Try.underlying3
  a3 := Try.isAgg3
  z3 := Try.sizeOf3
  v3 := Try.zeroValue3
  t4 := Try.underlying4
  a4 := Try.isAgg4
  z4 := Try.sizeOf4
  v4 := Try.zeroValue4 }
def laysNm231_ren : Go.Shelf.Ren := ⟨fun | 31 => 141 | 37 => 171 | n => n, fun | 3 => 3 | 4 => 4 | n => n, fun | n => n⟩
theorem laysNm231 : Go.Proofs.Lays2.n31 Try.prog laysNm231_ren := {
  mixed := by kernel_rfl
  f31 := Try.func141.trans (congrArg some (by kernel_rfl))
  f37 := Try.func171.trans (congrArg some (by kernel_rfl))
  t3 := Try.underlying3
  a3 := Try.isAgg3
  z3 := Try.sizeOf3
  v3 := Try.zeroValue3
  t4 := Try.underlying4
  a4 := Try.isAgg4
  z4 := Try.sizeOf4
  v4 := Try.zeroValue4 }
def laysNm225_ren : Go.Shelf.Ren := ⟨fun | 25 => 208 | 31 => 141 | 32 => 209 | 37 => 171 | n => n, fun | 22 => 69 | 3 => 3 | 4 => 4 | 40 => 169 | 0 => 0 | n => n, fun | n => n⟩
theorem laysNm225 : Go.Proofs.Lays2.n25 Try.prog laysNm225_ren := {
  mixed := by kernel_rfl
  f25 := Try.func208.trans (congrArg some (by kernel_rfl))
  f31 := Try.func141.trans (congrArg some (by kernel_rfl))
  f32 := Try.func209.trans (congrArg some (by kernel_rfl))
  f37 := Try.func171.trans (congrArg some (by kernel_rfl))
  t0 := Try.underlying0
  a0 := Try.isAgg0
  z0 := Try.sizeOf0
  v0 := Try.zeroValue0
  t3 := Try.underlying3
  a3 := Try.isAgg3
  z3 := Try.sizeOf3
  v3 := Try.zeroValue3
  t4 := Try.underlying4
  a4 := Try.isAgg4
  z4 := Try.sizeOf4
  v4 := Try.zeroValue4
  t22 := Try.underlying69
  a22 := Try.isAgg69
  z22 := Try.sizeOf69
  v22 := Try.zeroValue69
  t40 := Try.underlying169
  a40 := Try.isAgg169
  z40 := Try.sizeOf169
  v40 := Try.zeroValue169 }
theorem slices_BinarySearch_int (b off n c : Nat) (zs : List Int) (x : Int) (w : World) (hz : n ≤ zs.length) (hbig : n < 4611686018427387904) (hc : ∀ j, j < zs.length → w.cell? ⟨b, off + j, none⟩ = some (.int .i64 (zs.getD j 0))) (hs : (zs.take n).Pairwise (· ≤ ·)) :
    Calls Try.prog 208 #[.slice (some ⟨b, off, none⟩) n c, .int .i64 x] w fun e w' => e = .returned (.tuple #[.int .i64 ((zs.take n).countP (· < x) : Nat), .bool ((zs.take n).contains x)]) ∧ ∃ q, w' = w.drewN q := Any.slices_BinarySearch_int laysNm225 b off n c zs x w hz hbig hc hs
theorem slices_Sort_int_none (p : Option Addr) (cap : Nat) (w : World) :
    Calls Try.prog 83 #[.slice p 0 cap] w fun e w' => e = .returned (.tuple #[]) ∧ w' = w := Any.slices_Sort_int_none lays189 p cap w
theorem slices_BinarySearch_int_empty (a : Option Addr) (c : Nat) (x : Int) (w : World) :
    Calls Try.prog 208 #[.slice a 0 c, .int .i64 x] w fun e w' => e = .returned (.tuple #[.int .i64 0, .bool false]) ∧ w' = w := Any.slices_BinarySearch_int_empty laysNm225 a c x w
end Go.Proofs.Ytjklonfheenfbaa
