/- Closed facts on this seat's program: its stops, lifts, make, keys. -/
import Derived.Test.YtnignhaamlmelaaGreatDoorRows
import Derived.JoinedOf
namespace Go.Proofs.YtnignhaamlmelaaGreatDoor
open Go
set_option maxRecDepth 100000
theorem kb5 : (false == (Tryz.prog).plainKeys) = true := by kernel_rfl
theorem kb60 : (Tryz.prog).stopsHeard = true := by kernel_rfl
theorem kb61 : (Tryz.prog).mayEnter = true := by kernel_rfl
theorem kb62 : (Rows.auditNoneRow.lifted == (Tryz.prog).liftsFinal) = true := by kernel_rfl
theorem kown : ownKnob Tryz.prog.godebug = none := by kernel_rfl
end Go.Proofs.YtnignhaamlmelaaGreatDoor
