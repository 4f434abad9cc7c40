/- Lemmas for TopKeysUpto: TopEnt0. -/
import Derived.Test.YtlbipokkdiiaiaaGreatDoorK29
import Derived.KernelRfl
namespace Go.Proofs.YtlbipokkdiiaiaaGreatDoor
set_option maxRecDepth 1000000
theorem zaH:zey.run=true:=by kernel_rfl
theorem zT:zeJ.run=true:=by kernel_rfl
end Go.Proofs.YtlbipokkdiiaiaaGreatDoor
