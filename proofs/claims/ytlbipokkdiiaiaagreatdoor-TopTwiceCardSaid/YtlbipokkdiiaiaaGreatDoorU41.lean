/- Lemmas for TopTwice: TopEnt3. -/
import Derived.Test.YtlbipokkdiiaiaaGreatDoorU37
import Derived.KernelRfl
namespace Go.Proofs.YtlbipokkdiiaiaaGreatDoor
set_option maxRecDepth 1000000
theorem ent3_run : ent3.run = true := by kernel_rfl
theorem ent7_run : ent7.run = true := by kernel_rfl
end Go.Proofs.YtlbipokkdiiaiaaGreatDoor
