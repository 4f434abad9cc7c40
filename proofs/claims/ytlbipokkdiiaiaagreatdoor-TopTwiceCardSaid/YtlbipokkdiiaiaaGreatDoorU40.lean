/- Lemmas for TopTwice: TopEnt2. -/
import Derived.Test.YtlbipokkdiiaiaaGreatDoorU37
import Derived.KernelRfl
namespace Go.Proofs.YtlbipokkdiiaiaaGreatDoor
set_option maxRecDepth 1000000
theorem ent2_run : ent2.run = true := by kernel_rfl
theorem ent6_run : ent6.run = true := by kernel_rfl
end Go.Proofs.YtlbipokkdiiaiaaGreatDoor
