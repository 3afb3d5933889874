/- Closed facts on this seat's program: its types are laid out; its maps' rows. -/
import Derived.Test.YtnignhaamlmelaaGreatDoorRows
import Derived.JoinedOf
namespace Go.Proofs.YtnignhaamlmelaaGreatDoor
open Go
set_option maxRecDepth 100000
theorem ka2 : laidOutB Tryz.prog = true := by kernel_rfl
theorem ka3 : mapsRowed Tryz.prog = true := by kernel_rfl
end Go.Proofs.YtnignhaamlmelaaGreatDoor
