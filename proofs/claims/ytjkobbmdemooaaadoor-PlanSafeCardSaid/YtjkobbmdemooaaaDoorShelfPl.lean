/- The library's contracts at this dump's numbers (by the kit's lay-plain). -/
import Derived.Shelf.SlicesG.Delete
import Derived.Ground.SlgnProg
import Derived.Test.YtjkobbmdemooaaaDoorProg
namespace Go.Proofs.YtjkobbmdemooaaaDoor
open Go.Shelf
def Tryd.delA_ren : Go.Shelf.Ren := ⟨fun | 45 => 53 | n => n, fun | 22 => 30 | 23 => 3 | 3 => 3 | 4 => 4 | 0 => 0 | n => n, fun | n => n⟩
theorem Tryd.delA : Go.Proofs.SlLaysN.n45 Tryd.prog Tryd.delA_ren := {
  mixed := by kernel_rfl
  f45 := ⟨Tryd.f53.name, by decide, Tryd.func53.trans (congrArg some (by kernel_rfl))⟩
  t0 := Tryd.underlying0
  a0 := Tryd.isAgg0
  z0 := Tryd.sizeOf0
  v0 := Tryd.zeroValue0
  t3 := Tryd.underlying3
  a3 := Tryd.isAgg3
  z3 := Tryd.sizeOf3
  v3 := Tryd.zeroValue3
  t4 := Tryd.underlying4
  a4 := Tryd.isAgg4
  z4 := Tryd.sizeOf4
  v4 := Tryd.zeroValue4
  t22 := Tryd.underlying30
  a22 := Tryd.isAgg30
  z22 := Tryd.sizeOf30
  v22 := Tryd.zeroValue30
  t23 := Tryd.underlying3
  a23 := Tryd.isAgg3
  z23 := Tryd.sizeOf3
  v23 := Tryd.zeroValue3
  i23 := by kernel_rfl }
end Go.Proofs.YtjkobbmdemooaaaDoor
