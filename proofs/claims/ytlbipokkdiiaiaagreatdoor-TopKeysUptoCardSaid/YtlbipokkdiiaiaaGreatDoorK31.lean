/- Lemmas for TopKeysUpto: TopEnt1. -/
import Derived.Test.YtlbipokkdiiaiaaGreatDoorK29
import Derived.KernelRfl
namespace Go.Proofs.YtlbipokkdiiaiaaGreatDoor
set_option maxRecDepth 1000000
theorem zbg:zeT.run=true:=by kernel_rfl
theorem zbE:zeZ.run=true:=by kernel_rfl
end Go.Proofs.YtlbipokkdiiaiaaGreatDoor
