/- maps.Keys and slices.Sorted over it, at maps of strings: what they answer. Condition: the map is one, its keys are within the reach. -/
import Derived.Test.YtalnndenncnbdaaGreatStrLib
import Derived.Test.YtalnndenncnbdaaGreatStrO
import Derived.Test.YtalnndenncnbdaaGreatMapV
import Derived.Shelf.SlIter.Nil
import Derived.Shelf.SlIter.Sorted
namespace Go.Proofs.YtalnndenncnbdaaGreat
set_option maxRecDepth 100000
open Go Go.Shelf Go.Sort Go.RowKit Go.Maps Go.WideElems

def sortedRen : Ren := { f := fun n => if n = 6 then 40 else if n = 8 then 78 else if n = 9 then 79 else if n = 11 then 123 else 0, t := fun n => if n = 0 then 0 else if n = 24 then 44 else if n = 26 then 9 else if n = 28 then 90 else if n = 33 then 77 else 0, g := fun _ => 0 }
theorem sortedLays : SlLaysZ.n6 Tryz.prog sortedRen where
  mixed := by kernel_rfl
  f6 := ⟨_, by kernel_rfl, Tryz.func40⟩
  f8 := ⟨_, by kernel_rfl, Tryz.func78⟩
  f11 := ⟨_, by kernel_rfl, Tryz.func123⟩
  t0 := by kernel_rfl
  a0 := fun w => by kernel_rfl
  z0 := fun w => by kernel_rfl
  v0 := fun w => by kernel_rfl
  t24 := by kernel_rfl
  a24 := fun w => by kernel_rfl
  z24 := fun w => by kernel_rfl
  v24 := fun w => by kernel_rfl
  t26 := by kernel_rfl
  a26 := fun w => by kernel_rfl
  z26 := fun w => by kernel_rfl
  v26 := fun w => by kernel_rfl
  t28 := by kernel_rfl
  a28 := fun w => by kernel_rfl
  z28 := fun w => by kernel_rfl
  v28 := fun w => by kernel_rfl
  i26 := by kernel_rfl
def keysARen : Ren := { f := fun n => if n = 7 then 41 else if n = 10 then 80 else 0, t := fun n => if n = 0 then 0 else if n = 3 then 92 else if n = 4 then 4 else if n = 23 then 82 else if n = 26 then 9 else if n = 27 then 89 else if n = 28 then 90 else if n = 33 then 77 else 0, g := fun _ => 0 }
theorem keysALays : SlLaysZ.n7 Tryz.prog keysARen where
  mixed := by kernel_rfl
  f7 := ⟨_, by kernel_rfl, Tryz.func41⟩
  f10 := ⟨_, by kernel_rfl, Tryz.func80⟩
  t0 := by kernel_rfl
  a0 := fun w => by kernel_rfl
  z0 := fun w => by kernel_rfl
  v0 := fun w => by kernel_rfl
  t4 := by kernel_rfl
  a4 := fun w => by kernel_rfl
  z4 := fun w => by kernel_rfl
  v4 := fun w => by kernel_rfl
  t23 := by kernel_rfl
  a23 := fun w => by kernel_rfl
  z23 := fun w => by kernel_rfl
  v23 := fun w => by kernel_rfl
  t26 := by kernel_rfl
  a26 := fun w => by kernel_rfl
  z26 := fun w => by kernel_rfl
  v26 := fun w => by kernel_rfl
  t27 := by kernel_rfl
  a27 := fun w => by kernel_rfl
  z27 := fun w => by kernel_rfl
  v27 := fun w => by kernel_rfl
  t28 := by kernel_rfl
  a28 := fun w => by kernel_rfl
  z28 := fun w => by kernel_rfl
  v28 := fun w => by kernel_rfl
  t33 := by kernel_rfl
  a33 := fun w => by kernel_rfl
  z33 := fun w => by kernel_rfl
  v33 := fun w => by kernel_rfl
def keysBRen : Ren := { f := fun n => if n = 7 then 47 else if n = 10 then 86 else 0, t := fun n => if n = 0 then 0 else if n = 3 then 49 else if n = 4 then 4 else if n = 23 then 92 else if n = 26 then 9 else if n = 27 then 89 else if n = 28 then 90 else if n = 33 then 77 else 0, g := fun _ => 0 }
theorem keysBLays : SlLaysZ.n7 Tryz.prog keysBRen where
  mixed := by kernel_rfl
  f7 := ⟨_, by kernel_rfl, Tryz.func47⟩
  f10 := ⟨_, by kernel_rfl, Tryz.func86⟩
  t0 := by kernel_rfl
  a0 := fun w => by kernel_rfl
  z0 := fun w => by kernel_rfl
  v0 := fun w => by kernel_rfl
  t4 := by kernel_rfl
  a4 := fun w => by kernel_rfl
  z4 := fun w => by kernel_rfl
  v4 := fun w => by kernel_rfl
  t23 := by kernel_rfl
  a23 := fun w => by kernel_rfl
  z23 := fun w => by kernel_rfl
  v23 := fun w => by kernel_rfl
  t26 := by kernel_rfl
  a26 := fun w => by kernel_rfl
  z26 := fun w => by kernel_rfl
  v26 := fun w => by kernel_rfl
  t27 := by kernel_rfl
  a27 := fun w => by kernel_rfl
  z27 := fun w => by kernel_rfl
  v27 := fun w => by kernel_rfl
  t28 := by kernel_rfl
  a28 := fun w => by kernel_rfl
  z28 := fun w => by kernel_rfl
  v28 := fun w => by kernel_rfl
  t33 := by kernel_rfl
  a33 := fun w => by kernel_rfl
  z33 := fun w => by kernel_rfl
  v33 := fun w => by kernel_rfl
end Go.Proofs.YtalnndenncnbdaaGreat
