/- The laying of cmp.Compare at ints at this dump, in plain words (written by the shelf's tool, turned into a template). -/
import Derived.Shelf.SlicesG.Cmp
import Derived.Test.YtpolhdkjkidpgaaProg
namespace Go.Proofs.Ytpolhdkjkidpgaa
open Go.Shelf
def Try.cmpInt_ren : Go.Shelf.Ren := ⟨fun | 5 => 39 | 7 => 63 | n => n, fun | 22 => 3 | 3 => 3 | 4 => 4 | n => n, fun | n => n⟩
theorem Try.cmpInt : Go.Proofs.SlLaysC2.n5 Try.prog Try.cmpInt_ren := {
  mixed := by kernel_rfl
  f5 := ⟨Try.f39.name, by decide, Try.func39.trans (congrArg some (by kernel_rfl))⟩
  f7 := ⟨Try.f63.name, by decide, Try.func63.trans (congrArg some (by kernel_rfl))⟩
  t3 := Try.underlying3
  a3 := Try.isAgg3
  z3 := Try.sizeOf3
  v3 := Try.zeroValue3
  t4 := Try.underlying4
  a4 := Try.isAgg4
  z4 := Try.sizeOf4
  v4 := Try.zeroValue4
  t22 := Try.underlying3
  a22 := Try.isAgg3
  z22 := Try.sizeOf3
  v22 := Try.zeroValue3 }
end Go.Proofs.Ytpolhdkjkidpgaa
