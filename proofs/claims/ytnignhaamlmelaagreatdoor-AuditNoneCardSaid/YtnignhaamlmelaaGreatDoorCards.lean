/-
  DERIVED. GIVEN WITH THE SEED: THE CARDS: each row of YtnignhaamlmelaaGreatDoorRows.lean that lists a variable, with what it lists TIED to the program's text (the seventh form; the later family's looks); each row that meets fmt, with fmt's text TOLD by the authors' own Lean function (tested against real Go, not proved from fmt's source: count such statements apart). THE CARD IS WHAT COUNTS. Prove the row's statement (the work); the ties are given (YtnignhaamlmelaaGreatDoorTie.lean); close each card by the builder's one call (the guide's Derived/Test/ToyasCard.lean, 'card_holds'). Laid BY PROGRAM, IN A SANDBOX (cutbox-door.mjs). By AI agents, Wed Nov 11 2026. No macro, syntax, notation, axiom, sorry.
-/
import Derived.Test.YtnignhaamlmelaaGreatDoorRows
import GoSem.ClaimSeven
namespace Go.Proofs.YtnignhaamlmelaaGreatDoor
namespace Rows

/-- THE TIED CARD OF 'turnrowtop.TopErrors'. -/
def topErrorsCard : Claim7 := { stood := { row := topErrorsRow, standIns := [], harness := (true, "e549197a7ec8dacd2b8aaaed4e8c8003b19021acd0df46b98d48d69b967ee7ef"), looks := false }, kinds := [], alts := [], laidByText := true, laidKinds := [.data], laidTests := true, laidLooks := .later }
def TopErrorsCardSaid : Prop := Claim7.holds Tryz.pinned (.plain (OpenSpec.ofChange topErrorsSpec)) topErrorsCard

/-- THE TIED CARD OF 'turnrowlaw18.AuditNone'. -/
def auditNoneCard : Claim7 := { stood := { row := auditNoneRow, standIns := [], harness := (true, "e549197a7ec8dacd2b8aaaed4e8c8003b19021acd0df46b98d48d69b967ee7ef"), looks := false }, kinds := [], alts := [], laidByText := true, laidKinds := [.data], laidTests := true, laidLooks := .later }
def AuditNoneCardSaid : Prop := Claim7.holds Tryz.pinned (.plain (OpenSpec.ofChange auditNoneSpec)) auditNoneCard

/-- THE TIED CARD OF 'turnrowlaw15.CellWhole'. -/
def cellWholeCard : Claim7 := { stood := { row := cellWholeRow, standIns := [], harness := (true, "e549197a7ec8dacd2b8aaaed4e8c8003b19021acd0df46b98d48d69b967ee7ef"), looks := false }, kinds := [], alts := [], laidByText := true, laidKinds := [.data], laidTests := true, laidLooks := .later }
def CellWholeCardSaid : Prop := Claim7.holds Tryz.pinned (.plain (OpenSpec.ofChange cellWholeSpec)) cellWholeCard

/-- THE TIED CARD OF 'turnrowlaw15.CellNews'. -/
def cellNewsCard : Claim7 := { stood := { row := cellNewsRow, standIns := [], harness := (true, "e549197a7ec8dacd2b8aaaed4e8c8003b19021acd0df46b98d48d69b967ee7ef"), looks := false }, kinds := [], alts := [], laidByText := true, laidKinds := [.data], laidTests := true, laidLooks := .later }
def CellNewsCardSaid : Prop := Claim7.holds Tryz.pinned (.plain (OpenSpec.ofChange cellNewsSpec)) cellNewsCard

/-- THE TIED CARD OF 'turnrowlaw16.JoinNone'. -/
def joinNoneCard : Claim7 := { stood := { row := joinNoneRow, standIns := [], harness := (true, "e549197a7ec8dacd2b8aaaed4e8c8003b19021acd0df46b98d48d69b967ee7ef"), looks := false }, kinds := [], alts := [], laidByText := true, laidKinds := [.data], laidTests := true, laidLooks := .later }
def JoinNoneCardSaid : Prop := Claim7.holds Tryz.pinned (.plain (OpenSpec.ofChange joinNoneSpec)) joinNoneCard

/-- THE TIED CARD OF 'turnrowlaw16.JoinActs'. -/
def joinActsCard : Claim7 := { stood := { row := joinActsRow, standIns := [], harness := (true, "e549197a7ec8dacd2b8aaaed4e8c8003b19021acd0df46b98d48d69b967ee7ef"), looks := false }, kinds := [], alts := [], laidByText := true, laidKinds := [.data], laidTests := true, laidLooks := .later }
def JoinActsCardSaid : Prop := Claim7.holds Tryz.pinned (.plain (OpenSpec.ofChange joinActsSpec)) joinActsCard

/-- THE TIED CARD OF 'turnrowlaw16.JoinStays'. -/
def joinStaysCard : Claim7 := { stood := { row := joinStaysRow, standIns := [], harness := (true, "e549197a7ec8dacd2b8aaaed4e8c8003b19021acd0df46b98d48d69b967ee7ef"), looks := false }, kinds := [], alts := [], laidByText := true, laidKinds := [.data], laidTests := true, laidLooks := .later }
def JoinStaysCardSaid : Prop := Claim7.holds Tryz.pinned (.plain (OpenSpec.ofChange joinStaysSpec)) joinStaysCard

/-- THE TIED CARD OF 'turnrowtop.TopAbort'. -/
def topAbortCard : Claim7 := { stood := { row := topAbortRow, standIns := [], harness := (true, "e549197a7ec8dacd2b8aaaed4e8c8003b19021acd0df46b98d48d69b967ee7ef"), looks := false }, kinds := [], alts := [], laidByText := true, laidKinds := [.data], laidTests := true, laidLooks := .later }
def TopAbortCardSaid : Prop := Claim7.holds Tryz.pinned (.plain (OpenSpec.ofChange topAbortSpec)) topAbortCard

/-- THE TIED CARD OF 'turnrowlaw16.JoinFrees'. -/
def joinFreesCard : Claim7 := { stood := { row := joinFreesRow, standIns := [], harness := (true, "e549197a7ec8dacd2b8aaaed4e8c8003b19021acd0df46b98d48d69b967ee7ef"), looks := false }, kinds := [], alts := [], laidByText := true, laidKinds := [.data], laidTests := true, laidLooks := .later }
def JoinFreesCardSaid : Prop := Claim7.holds Tryz.pinned (.plain (OpenSpec.ofChange joinFreesSpec)) joinFreesCard

/-- THE TIED CARD OF 'turnrowlaw16.JoinGraves'. -/
def joinGravesCard : Claim7 := { stood := { row := joinGravesRow, standIns := [], harness := (true, "e549197a7ec8dacd2b8aaaed4e8c8003b19021acd0df46b98d48d69b967ee7ef"), looks := false }, kinds := [], alts := [], laidByText := true, laidKinds := [.data], laidTests := true, laidLooks := .later }
def JoinGravesCardSaid : Prop := Claim7.holds Tryz.pinned (.plain (OpenSpec.ofChange joinGravesSpec)) joinGravesCard

/-- THE TIED CARD OF 'turnrowlaw16.JoinWhole'. -/
def joinWholeCard : Claim7 := { stood := { row := joinWholeRow, standIns := [], harness := (true, "e549197a7ec8dacd2b8aaaed4e8c8003b19021acd0df46b98d48d69b967ee7ef"), looks := false }, kinds := [], alts := [], laidByText := true, laidKinds := [.data], laidTests := true, laidLooks := .later }
def JoinWholeCardSaid : Prop := Claim7.holds Tryz.pinned (.plain (OpenSpec.ofChange joinWholeSpec)) joinWholeCard

/-- THE TIED CARD OF 'turnrowlaw16.JoinParts'. -/
def joinPartsCard : Claim7 := { stood := { row := joinPartsRow, standIns := [], harness := (true, "e549197a7ec8dacd2b8aaaed4e8c8003b19021acd0df46b98d48d69b967ee7ef"), looks := false }, kinds := [], alts := [], laidByText := true, laidKinds := [.data], laidTests := true, laidLooks := .later }
def JoinPartsCardSaid : Prop := Claim7.holds Tryz.pinned (.plain (OpenSpec.ofChange joinPartsSpec)) joinPartsCard

/-- THE SECOND FORM's CARD OF 'turnrowtop.TopErrors'. -/
def topErrorsUptoCard : Claim7 := { stood := { row := topErrorsUptoRow, standIns := [], harness := (true, "e549197a7ec8dacd2b8aaaed4e8c8003b19021acd0df46b98d48d69b967ee7ef"), looks := false }, kinds := [], alts := [], laidByText := true, laidKinds := [.data], laidTests := true, laidLooks := .later }
def TopErrorsUptoCardSaid : Prop := Claim7.holds Tryz.pinned (.plain (OpenSpec.upto topErrorsSpec)) topErrorsUptoCard

/-- THE SECOND FORM's CARD OF 'turnrowlaw18.AuditNone'. -/
def auditNoneUptoCard : Claim7 := { stood := { row := auditNoneUptoRow, standIns := [], harness := (true, "e549197a7ec8dacd2b8aaaed4e8c8003b19021acd0df46b98d48d69b967ee7ef"), looks := false }, kinds := [], alts := [], laidByText := true, laidKinds := [.data], laidTests := true, laidLooks := .later }
def AuditNoneUptoCardSaid : Prop := Claim7.holds Tryz.pinned (.plain (OpenSpec.upto auditNoneSpec)) auditNoneUptoCard

/-- THE SECOND FORM's CARD OF 'turnrowlaw15.CellWhole'. -/
def cellWholeUptoCard : Claim7 := { stood := { row := cellWholeUptoRow, standIns := [], harness := (true, "e549197a7ec8dacd2b8aaaed4e8c8003b19021acd0df46b98d48d69b967ee7ef"), looks := false }, kinds := [], alts := [], laidByText := true, laidKinds := [.data], laidTests := true, laidLooks := .later }
def CellWholeUptoCardSaid : Prop := Claim7.holds Tryz.pinned (.plain (OpenSpec.upto cellWholeSpec)) cellWholeUptoCard

/-- THE SECOND FORM's CARD OF 'turnrowlaw15.CellNews'. -/
def cellNewsUptoCard : Claim7 := { stood := { row := cellNewsUptoRow, standIns := [], harness := (true, "e549197a7ec8dacd2b8aaaed4e8c8003b19021acd0df46b98d48d69b967ee7ef"), looks := false }, kinds := [], alts := [], laidByText := true, laidKinds := [.data], laidTests := true, laidLooks := .later }
def CellNewsUptoCardSaid : Prop := Claim7.holds Tryz.pinned (.plain (OpenSpec.upto cellNewsSpec)) cellNewsUptoCard

/-- THE SECOND FORM's CARD OF 'turnrowlaw16.JoinNone'. -/
def joinNoneUptoCard : Claim7 := { stood := { row := joinNoneUptoRow, standIns := [], harness := (true, "e549197a7ec8dacd2b8aaaed4e8c8003b19021acd0df46b98d48d69b967ee7ef"), looks := false }, kinds := [], alts := [], laidByText := true, laidKinds := [.data], laidTests := true, laidLooks := .later }
def JoinNoneUptoCardSaid : Prop := Claim7.holds Tryz.pinned (.plain (OpenSpec.upto joinNoneSpec)) joinNoneUptoCard

/-- THE SECOND FORM's CARD OF 'turnrowlaw16.JoinActs'. -/
def joinActsUptoCard : Claim7 := { stood := { row := joinActsUptoRow, standIns := [], harness := (true, "e549197a7ec8dacd2b8aaaed4e8c8003b19021acd0df46b98d48d69b967ee7ef"), looks := false }, kinds := [], alts := [], laidByText := true, laidKinds := [.data], laidTests := true, laidLooks := .later }
def JoinActsUptoCardSaid : Prop := Claim7.holds Tryz.pinned (.plain (OpenSpec.upto joinActsSpec)) joinActsUptoCard

/-- THE SECOND FORM's CARD OF 'turnrowlaw16.JoinStays'. -/
def joinStaysUptoCard : Claim7 := { stood := { row := joinStaysUptoRow, standIns := [], harness := (true, "e549197a7ec8dacd2b8aaaed4e8c8003b19021acd0df46b98d48d69b967ee7ef"), looks := false }, kinds := [], alts := [], laidByText := true, laidKinds := [.data], laidTests := true, laidLooks := .later }
def JoinStaysUptoCardSaid : Prop := Claim7.holds Tryz.pinned (.plain (OpenSpec.upto joinStaysSpec)) joinStaysUptoCard

/-- THE SECOND FORM's CARD OF 'turnrowtop.TopAbort'. -/
def topAbortUptoCard : Claim7 := { stood := { row := topAbortUptoRow, standIns := [], harness := (true, "e549197a7ec8dacd2b8aaaed4e8c8003b19021acd0df46b98d48d69b967ee7ef"), looks := false }, kinds := [], alts := [], laidByText := true, laidKinds := [.data], laidTests := true, laidLooks := .later }
def TopAbortUptoCardSaid : Prop := Claim7.holds Tryz.pinned (.plain (OpenSpec.upto topAbortSpec)) topAbortUptoCard

/-- THE SECOND FORM's CARD OF 'turnrowlaw16.JoinFrees'. -/
def joinFreesUptoCard : Claim7 := { stood := { row := joinFreesUptoRow, standIns := [], harness := (true, "e549197a7ec8dacd2b8aaaed4e8c8003b19021acd0df46b98d48d69b967ee7ef"), looks := false }, kinds := [], alts := [], laidByText := true, laidKinds := [.data], laidTests := true, laidLooks := .later }
def JoinFreesUptoCardSaid : Prop := Claim7.holds Tryz.pinned (.plain (OpenSpec.upto joinFreesSpec)) joinFreesUptoCard

/-- THE SECOND FORM's CARD OF 'turnrowlaw16.JoinGraves'. -/
def joinGravesUptoCard : Claim7 := { stood := { row := joinGravesUptoRow, standIns := [], harness := (true, "e549197a7ec8dacd2b8aaaed4e8c8003b19021acd0df46b98d48d69b967ee7ef"), looks := false }, kinds := [], alts := [], laidByText := true, laidKinds := [.data], laidTests := true, laidLooks := .later }
def JoinGravesUptoCardSaid : Prop := Claim7.holds Tryz.pinned (.plain (OpenSpec.upto joinGravesSpec)) joinGravesUptoCard

/-- THE SECOND FORM's CARD OF 'turnrowlaw16.JoinWhole'. -/
def joinWholeUptoCard : Claim7 := { stood := { row := joinWholeUptoRow, standIns := [], harness := (true, "e549197a7ec8dacd2b8aaaed4e8c8003b19021acd0df46b98d48d69b967ee7ef"), looks := false }, kinds := [], alts := [], laidByText := true, laidKinds := [.data], laidTests := true, laidLooks := .later }
def JoinWholeUptoCardSaid : Prop := Claim7.holds Tryz.pinned (.plain (OpenSpec.upto joinWholeSpec)) joinWholeUptoCard

/-- THE SECOND FORM's CARD OF 'turnrowlaw16.JoinParts'. -/
def joinPartsUptoCard : Claim7 := { stood := { row := joinPartsUptoRow, standIns := [], harness := (true, "e549197a7ec8dacd2b8aaaed4e8c8003b19021acd0df46b98d48d69b967ee7ef"), looks := false }, kinds := [], alts := [], laidByText := true, laidKinds := [.data], laidTests := true, laidLooks := .later }
def JoinPartsUptoCardSaid : Prop := Claim7.holds Tryz.pinned (.plain (OpenSpec.upto joinPartsSpec)) joinPartsUptoCard
end Rows
end Go.Proofs.YtnignhaamlmelaaGreatDoor
