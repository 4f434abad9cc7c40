/- Lemmas for TopKeysUpto: TopEnt2. -/
import Derived.Test.YtlbipokkdiiaiaaGreatDoorK29
import Derived.KernelRfl
namespace Go.Proofs.YtlbipokkdiiaiaaGreatDoor
set_option maxRecDepth 1000000
theorem zaU:ze4.run=true:=by kernel_rfl
theorem zaJ:ze0.run=true:=by kernel_rfl
end Go.Proofs.YtlbipokkdiiaiaaGreatDoor
