/-
  The shelf's laying of maps.Keys at this dump, in plain words (written by the kit's lay-plain.mjs).
-/
import Derived.Shelf.SlGeneric
import Derived.Shelf.SlIter.Stops
import Derived.Ground.GgzProg
import Derived.Test.YtbilkpioddjlfaaDoorProg
namespace Go.Proofs
open Go.Shelf
def Tryd.keysL_ren : Go.Shelf.Ren := ⟨fun | 7 => 64 | 10 => 84 | n => n, fun | 23 => 63 | 26 => 9 | 3 => 9 | 28 => 106 | 0 => 0 | 27 => 105 | 33 => 104 | 4 => 4 | n => n, fun | n => n⟩
theorem Tryd.keysL : Go.Proofs.SlLaysZ.n7 Tryd.prog Tryd.keysL_ren := {
  mixed := by kernel_rfl
  f7 := ⟨Tryd.f64.name, by decide, Tryd.func64.trans (congrArg some (by kernel_rfl))⟩
  f10 := ⟨Tryd.f84.name, by decide, Tryd.func84.trans (congrArg some (by kernel_rfl))⟩
  t0 := Tryd.underlying0
  a0 := Tryd.isAgg0
  z0 := Tryd.sizeOf0
  v0 := Tryd.zeroValue0
  t4 := Tryd.underlying4
  a4 := Tryd.isAgg4
  z4 := Tryd.sizeOf4
  v4 := Tryd.zeroValue4
  t23 := Tryd.underlying63
  a23 := Tryd.isAgg63
  z23 := Tryd.sizeOf63
  v23 := Tryd.zeroValue63
  t26 := Tryd.underlying9
  a26 := Tryd.isAgg9
  z26 := Tryd.sizeOf9
  v26 := Tryd.zeroValue9
  t27 := Tryd.underlying105
  a27 := Tryd.isAgg105
  z27 := Tryd.sizeOf105
  v27 := Tryd.zeroValue105
  t28 := Tryd.underlying106
  a28 := Tryd.isAgg106
  z28 := Tryd.sizeOf106
  v28 := Tryd.zeroValue106
  t33 := Tryd.underlying104
  a33 := Tryd.isAgg104
  z33 := Tryd.sizeOf104
  v33 := Tryd.zeroValue104 }
end Go.Proofs
