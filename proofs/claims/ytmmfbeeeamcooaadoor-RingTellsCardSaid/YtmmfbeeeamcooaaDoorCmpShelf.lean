/- The laying of cmp.Compare at ints at this dump, in plain words (written by the shelf's tool, turned into a template). -/
import Derived.Shelf.SlicesG.Cmp
import Derived.Test.YtmmfbeeeamcooaaDoorProg
namespace Go.Proofs.YtmmfbeeeamcooaaDoor
open Go.Shelf
def Tryd.cmpInt_ren : Go.Shelf.Ren := ⟨fun | 5 => 26 | 7 => 38 | n => n, fun | 22 => 3 | 3 => 3 | 4 => 4 | n => n, fun | n => n⟩
theorem Tryd.cmpInt : Go.Proofs.SlLaysC2.n5 Tryd.prog Tryd.cmpInt_ren := {
  mixed := by kernel_rfl
  f5 := ⟨Tryd.f26.name, by decide, Tryd.func26.trans (congrArg some (by kernel_rfl))⟩
  f7 := ⟨Tryd.f38.name, by decide, Tryd.func38.trans (congrArg some (by kernel_rfl))⟩
  t3 := Tryd.underlying3
  a3 := Tryd.isAgg3
  z3 := Tryd.sizeOf3
  v3 := Tryd.zeroValue3
  t4 := Tryd.underlying4
  a4 := Tryd.isAgg4
  z4 := Tryd.sizeOf4
  v4 := Tryd.zeroValue4
  t22 := Tryd.underlying3
  a22 := Tryd.isAgg3
  z22 := Tryd.sizeOf3
  v22 := Tryd.zeroValue3 }
end Go.Proofs.YtmmfbeeeamcooaaDoor
