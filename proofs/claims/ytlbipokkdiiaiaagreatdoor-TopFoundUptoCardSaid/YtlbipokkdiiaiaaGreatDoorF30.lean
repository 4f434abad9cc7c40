/- Lemmas for TopFoundUpto: TopEnt1. -/
import Derived.Test.YtlbipokkdiiaiaaGreatDoorF28
import Derived.KernelRfl
namespace Go.Proofs.YtlbipokkdiiaiaaGreatDoor
set_option maxRecDepth 1000000
theorem zX:zer.run=true:=by kernel_rfl
theorem zbv:zd7.run=true:=by kernel_rfl
end Go.Proofs.YtlbipokkdiiaiaaGreatDoor
