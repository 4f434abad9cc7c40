/- Lemmas for TopTwice: TopEnt0. -/
import Derived.Test.YtlbipokkdiiaiaaGreatDoorU37
import Derived.KernelRfl
namespace Go.Proofs.YtlbipokkdiiaiaaGreatDoor
set_option maxRecDepth 1000000
theorem ent0_run : ent0.run = true := by kernel_rfl
theorem ent4_run : ent4.run = true := by kernel_rfl
end Go.Proofs.YtlbipokkdiiaiaaGreatDoor
