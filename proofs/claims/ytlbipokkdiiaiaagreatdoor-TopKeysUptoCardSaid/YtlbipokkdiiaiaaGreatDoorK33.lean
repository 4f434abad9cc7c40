/- Lemmas for TopKeysUpto: TopEnt3. -/
import Derived.Test.YtlbipokkdiiaiaaGreatDoorK29
import Derived.KernelRfl
namespace Go.Proofs.YtlbipokkdiiaiaaGreatDoor
set_option maxRecDepth 1000000
theorem zbl:zeL.run=true:=by kernel_rfl
theorem zaF:zeD.run=true:=by kernel_rfl
end Go.Proofs.YtlbipokkdiiaiaaGreatDoor
