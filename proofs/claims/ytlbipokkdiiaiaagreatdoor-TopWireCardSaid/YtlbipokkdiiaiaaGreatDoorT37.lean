/- Lemmas for TopWire: TopEnt0. -/
import Derived.Test.YtlbipokkdiiaiaaGreatDoorT36
import Derived.KernelRfl
/- The entries' runs. -/
namespace Go.Proofs.YtlbipokkdiiaiaaGreatDoor
set_option maxRecDepth 1000000
theorem ent0_run : ent0.run = true := by kernel_rfl
theorem ent4_run : ent4.run = true := by kernel_rfl
end Go.Proofs.YtlbipokkdiiaiaaGreatDoor
