/- Lemmas for TopFoundUpto: TopEnt0. -/
import Derived.Test.YtlbipokkdiiaiaaGreatDoorF28
import Derived.KernelRfl
namespace Go.Proofs.YtlbipokkdiiaiaaGreatDoor
set_option maxRecDepth 1000000
theorem zao:zd8.run=true:=by kernel_rfl
theorem zaU:zeG.run=true:=by kernel_rfl
end Go.Proofs.YtlbipokkdiiaiaaGreatDoor
