/- Lemmas for TopFoundUpto: TopEnt3. -/
import Derived.Test.YtlbipokkdiiaiaaGreatDoorF28
import Derived.KernelRfl
namespace Go.Proofs.YtlbipokkdiiaiaaGreatDoor
set_option maxRecDepth 1000000
theorem zT:zeC.run=true:=by kernel_rfl
theorem zbg:zeh.run=true:=by kernel_rfl
end Go.Proofs.YtlbipokkdiiaiaaGreatDoor
