/- The library's contracts at this program's numbers: laid plainly by the kit's lay-plain. -/
import Derived.Test.YtalnndenncnbdaaGreatBase
import Derived.Shelf.Strings.Builder1
import Derived.Shelf.Strings.Builder2
import Derived.Shelf.Small.Utf8
import Derived.Shelf.Small.Bits
import Derived.Shelf.Small.Strs
import Derived.Shelf.Strconv.Itoa0
import Derived.Shelf.Strings.Search1
import Derived.Shelf.Sort.Plain
import Derived.Shelf.Strings.Runes
import Derived.Shelf.Strings.IndexAny
import Derived.Shelf.Strings.AsciiSet
import Derived.Shelf.Strings.IndexAnyAll
import Derived.Ground.Names2Prog
import Derived.Shelf.Slices.Clone
import Derived.Shelf.Slices.CompactI
import Derived.Shelf.Slices.SearchI
import Derived.Shelf.Slices.Cells
import Derived.Shelf.Slices.In.SortNone
import Derived.Shelf.Slices.Empties
import Derived.Ground.SlgnProg
import Derived.Shelf.SlicesE.Clone
import Derived.Ground.SlsfProg
import Derived.Shelf.SlSortCmp.Insertion
namespace Go.Proofs.YtalnndenncnbdaaGreat
set_option maxRecDepth 100000
open Go Go.Shelf Go.Sort Go.RowKit
def lays190_ren : Go.Shelf.Ren := ⟨fun | 190 => 79 | 125 => 85 | 258 => 124 | 128 => 137 | 129 => 138 | 302 => 157 | 303 => 158 | 304 => 159 | 305 => 160 | 306 => 161 | 307 => 162 | 308 => 163 | 309 => 164 | 310 => 165 | 333 => 190 | 329 => 169 | 330 => 170 | 334 => 191 | 335 => 192 | 336 => 193 | 344 => 213 | n => n, fun | 31 => 44 | 9 => 9 | 3 => 3 | 46 => 150 | 0 => 0 | 51 => 203 | 53 => 143 | 4 => 4 | 183 => 197 | 182 => 196 | 131 => 35 | 5 => 5 | 218 => 243 | 222 => 247 | 228 => 279 | 229 => 122 | n => n, fun | n => n⟩
theorem lays190 : Go.Proofs.Lays.n190 Tryz.prog lays190_ren := {
  mixed := by kernel_rfl
  f125 := Tryz.func85.trans (congrArg some (by kernel_rfl))
  f128 := Tryz.func137.trans (congrArg some (by kernel_rfl))
  f129 := Tryz.func138.trans (congrArg some (by kernel_rfl))
  f190 := Tryz.func79.trans (congrArg some (by kernel_rfl))
  f258 := Tryz.func124.trans (congrArg some (by kernel_rfl))
  f302 := Tryz.func157.trans (congrArg some (by kernel_rfl))
  f303 := Tryz.func158.trans (congrArg some (by kernel_rfl))
  f304 := Tryz.func159.trans (congrArg some (by kernel_rfl))
  f305 := Tryz.func160.trans (congrArg some (by kernel_rfl))
  f306 := Tryz.func161.trans (congrArg some (by kernel_rfl))
  f307 := Tryz.func162.trans (congrArg some (by kernel_rfl))
  f308 := Tryz.func163.trans (congrArg some (by kernel_rfl))
  f309 := Tryz.func164.trans (congrArg some (by kernel_rfl))
  f310 := Tryz.func165.trans (congrArg some (by kernel_rfl))
  f329 := Tryz.func169.trans (congrArg some (by kernel_rfl))
  f330 := Tryz.func170.trans (congrArg some (by kernel_rfl))
  f333 := Tryz.func190.trans (congrArg some (by kernel_rfl))
  f334 := Tryz.func191.trans (congrArg some (by kernel_rfl))
  f335 := Tryz.func192.trans (congrArg some (by kernel_rfl))
  f336 := Tryz.func193.trans (congrArg some (by kernel_rfl))
  f344 := Tryz.func213.trans (congrArg some (by kernel_rfl))
  t0 := Tryz.underlying0
  a0 := Tryz.isAgg0
  z0 := Tryz.sizeOf0
  v0 := Tryz.zeroValue0
  t3 := Tryz.underlying3
  a3 := Tryz.isAgg3
  z3 := Tryz.sizeOf3
  v3 := Tryz.zeroValue3
  t4 := Tryz.underlying4
  a4 := Tryz.isAgg4
  z4 := Tryz.sizeOf4
  v4 := Tryz.zeroValue4
  t5 := Tryz.underlying5
  a5 := Tryz.isAgg5
  z5 := Tryz.sizeOf5
  v5 := Tryz.zeroValue5
  t9 := Tryz.underlying9
  a9 := Tryz.isAgg9
  z9 := Tryz.sizeOf9
  v9 := Tryz.zeroValue9
  t31 := Tryz.underlying44
  a31 := Tryz.isAgg44
  z31 := Tryz.sizeOf44
  v31 := Tryz.zeroValue44
  t46 := Tryz.underlying150
  a46 := Tryz.isAgg150
  z46 := Tryz.sizeOf150
  v46 := Tryz.zeroValue150
  t51 := Tryz.underlying203
  a51 := Tryz.isAgg203
  z51 := Tryz.sizeOf203
  v51 := Tryz.zeroValue203
  t53 := Tryz.underlying143
  a53 := Tryz.isAgg143
  z53 := Tryz.sizeOf143
  v53 := Tryz.zeroValue143
  t131 := Tryz.underlying35
  a131 := Tryz.isAgg35
  z131 := Tryz.sizeOf35
  v131 := Tryz.zeroValue35
  t182 := Tryz.underlying196
  a182 := Tryz.isAgg196
  z182 := Tryz.sizeOf196
  v182 := Tryz.zeroValue196
  t183 := Tryz.underlying197
  a183 := Tryz.isAgg197
  z183 := Tryz.sizeOf197
  v183 := Tryz.zeroValue197
  t218 := Tryz.underlying243
  a218 := Tryz.isAgg243
  z218 := Tryz.sizeOf243
  v218 := Tryz.zeroValue243
  t222 := Tryz.underlying247
  a222 := Tryz.isAgg247
  z222 := Tryz.sizeOf247
  v222 := Tryz.zeroValue247
  t228 := Tryz.underlying279
  a228 := Tryz.isAgg279
  z228 := Tryz.sizeOf279
  v228 := Tryz.zeroValue279
  t229 := Tryz.underlying122
  a229 := Tryz.isAgg122
  z229 := Tryz.sizeOf122
  v229 := Tryz.zeroValue122 }
theorem slices_Sort_string (blk off cap : Nat) (ss : List (List UInt8)) (w : World) (hH : Holds encStr w blk off ss.toArray) (hblk : blk < w.heap.size) (hsz : ss.length < 4611686018427387904) :
    Calls Tryz.prog 79 #[.slice (some ⟨blk, off, none⟩) ss.length cap] w fun e w' =>
      e = .returned (.tuple #[]) ∧ ∃ n os, w' = grow (putRow encStr (Sort.ahead w n) blk off (ss.mergeSort fun x y => decide (x ≤ y)).toArray) os := Any.slices_Sort_string lays190 blk off cap ss w hH hblk hsz
theorem slices_Sort_string_none (p : Option Addr) (cap : Nat) (w : World) :
    Calls Tryz.prog 79 #[.slice p 0 cap] w fun e w' => e = .returned (.tuple #[]) ∧ w' = w := Any.slices_Sort_string_none lays190 p cap w
end Go.Proofs.YtalnndenncnbdaaGreat
