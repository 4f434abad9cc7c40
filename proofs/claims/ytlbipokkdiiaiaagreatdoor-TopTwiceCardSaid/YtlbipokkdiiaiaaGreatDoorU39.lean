/- Lemmas for TopTwice: TopEnt1. -/
import Derived.Test.YtlbipokkdiiaiaaGreatDoorU37
import Derived.KernelRfl
namespace Go.Proofs.YtlbipokkdiiaiaaGreatDoor
set_option maxRecDepth 1000000
theorem ent1_run : ent1.run = true := by kernel_rfl
theorem ent5_run : ent5.run = true := by kernel_rfl
end Go.Proofs.YtlbipokkdiiaiaaGreatDoor
