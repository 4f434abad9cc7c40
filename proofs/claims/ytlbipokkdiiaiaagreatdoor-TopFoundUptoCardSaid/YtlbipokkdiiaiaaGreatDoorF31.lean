/- Lemmas for TopFoundUpto: TopEnt2. -/
import Derived.Test.YtlbipokkdiiaiaaGreatDoorF28
import Derived.KernelRfl
namespace Go.Proofs.YtlbipokkdiiaiaaGreatDoor
set_option maxRecDepth 1000000
theorem z7:zeE.run=true:=by kernel_rfl
theorem zx:zeB.run=true:=by kernel_rfl
end Go.Proofs.YtlbipokkdiiaiaaGreatDoor
