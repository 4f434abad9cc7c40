/- Lemmas for TopWire: TopEnt2. -/
import Derived.Test.YtlbipokkdiiaiaaGreatDoorT36
import Derived.KernelRfl
/- The entries' runs. -/
namespace Go.Proofs.YtlbipokkdiiaiaaGreatDoor
set_option maxRecDepth 1000000
theorem ent2_run : ent2.run = true := by kernel_rfl
theorem ent6_run : ent6.run = true := by kernel_rfl
end Go.Proofs.YtlbipokkdiiaiaaGreatDoor
