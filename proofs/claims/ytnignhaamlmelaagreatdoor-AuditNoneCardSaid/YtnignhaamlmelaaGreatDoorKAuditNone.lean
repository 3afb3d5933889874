/- Closed facts on the law AuditNone of this seat's program: what it reaches. -/
import Derived.Test.YtnignhaamlmelaaGreatDoorRows
import Derived.JoinedOf
import GoSem.ClaimSeven
namespace Go.Proofs.YtnignhaamlmelaaGreatDoor
open Go
set_option maxRecDepth 100000
theorem auditNone_k7 : (Rows.auditNoneRow.inPlace == (Tryz.prog).inPlace 4) = true := by kernel_rfl
theorem auditNone_k8 : (Rows.auditNoneRow.unfollowed == (Tryz.prog).unfollowed 4) = true := by kernel_rfl
theorem auditNone_k9 : (Rows.auditNoneRow.recurses == (Tryz.prog).recurses 4) = true := by kernel_rfl
theorem auditNone_k1 : (Rows.auditNoneRow.named == (Tryz.prog).varsNamed 4) = true := by kernel_rfl
theorem auditNone_km : ((Tryz.prog).make == some Rows.auditNoneRow.make) = true := by kernel_rfl
theorem auditNone_kg : false = Rows.auditNoneRow.goesBy (Tryz.prog) := by kernel_rfl
end Go.Proofs.YtnignhaamlmelaaGreatDoor
