/-
  NARROWER THAN 'FOR EVERY INPUT', by the rows' own cells (each row's printed sentence says how): TopErrors: laid · AuditNone: laid · CellWhole: laid · CellNews: laid · JoinNone: laid · JoinActs: laid · JoinStays: laid · TopAbort: laid · JoinFrees: laid · JoinGraves: laid · JoinWhole: laid · JoinParts: laid.
  DERIVED. THE GIVEN ROWS OF THIS SEAT. 12 by the template 'for every input the law returns true; each argument reads behind the call as it read before'; 0 by the template 'total and deterministic' (their statements: YtnignhaamlmelaaGreatDoorTotals.lean).
  GIVEN WITH THE SEED: the statements are not yours to turn. If you find one false, say at which input.
  Laid BY PROGRAM, IN A SANDBOX (cutbox-rows.mjs): the forced cells as the released guide's own fill.sh prints them over the translation d1827c863ccdb627… (all of the seat's roots in one cut). By AI agents, Wed Nov 11 2026. No macro, syntax, notation, axiom, sorry.
-/
import Derived.Test.YtnignhaamlmelaaGreatDoorChecked
import GoSem.Claim
import GoSem.ClaimJoined
import GoSem.ClaimMapViews
import Derived.JoinedTies
import Derived.KernelRfl
namespace Go.Proofs.YtnignhaamlmelaaGreatDoor
/- THE CELL 'sum', in the pinned program and in every row, IS THE sha256 OF THE DUMP (.gsa) THAT YtnignhaamlmelaaGreatDoorProg.lean LOADS. Nothing in Lean hashes anything: it is a label: what it is worth is what the hold of that sum in a sandbox is worth. -/
noncomputable def Tryz.pinned : Pinned := { name := "ytnignhaamlmelaagreatdoor", sum := "d1827c863ccdb62793477330d9d8da715e94f5a86461204c16d83633cf13a969", checked := Tryz.checked }
namespace Rows
def none {H : Type} : Left H := { results := [], args := [] }

/- WHAT THE LISTED PACKAGE-LEVEL VARIABLES READ AS WHEN THE CALL BEGINS. Each datum BY PROGRAM (the guide's laid-datum.mjs) off the statement by which the dump's own 'gosem.cut.vars' lays the variable. In a bare row this is a premise. The card (YtnignhaamlmelaaGreatDoorCards.lean) ties it to the program's text. -/
def laid_math_bits_deBruijn64tab {H : Type} : DataW H := .agg [.lit (.int .u8 0), .lit (.int .u8 1), .lit (.int .u8 56), .lit (.int .u8 2), .lit (.int .u8 57), .lit (.int .u8 49), .lit (.int .u8 28), .lit (.int .u8 3), .lit (.int .u8 61), .lit (.int .u8 58), .lit (.int .u8 42), .lit (.int .u8 50), .lit (.int .u8 38), .lit (.int .u8 29), .lit (.int .u8 17), .lit (.int .u8 4), .lit (.int .u8 62), .lit (.int .u8 47), .lit (.int .u8 59), .lit (.int .u8 36), .lit (.int .u8 45), .lit (.int .u8 43), .lit (.int .u8 51), .lit (.int .u8 22), .lit (.int .u8 53), .lit (.int .u8 39), .lit (.int .u8 33), .lit (.int .u8 30), .lit (.int .u8 24), .lit (.int .u8 18), .lit (.int .u8 12), .lit (.int .u8 5), .lit (.int .u8 63), .lit (.int .u8 55), .lit (.int .u8 48), .lit (.int .u8 27), .lit (.int .u8 60), .lit (.int .u8 41), .lit (.int .u8 37), .lit (.int .u8 16), .lit (.int .u8 46), .lit (.int .u8 35), .lit (.int .u8 44), .lit (.int .u8 21), .lit (.int .u8 52), .lit (.int .u8 32), .lit (.int .u8 23), .lit (.int .u8 11), .lit (.int .u8 54), .lit (.int .u8 26), .lit (.int .u8 40), .lit (.int .u8 15), .lit (.int .u8 34), .lit (.int .u8 20), .lit (.int .u8 31), .lit (.int .u8 10), .lit (.int .u8 25), .lit (.int .u8 14), .lit (.int .u8 19), .lit (.int .u8 9), .lit (.int .u8 13), .lit (.int .u8 8), .lit (.int .u8 7), .lit (.int .u8 6)]

/-- 'turnrowtop.TopErrors': WHATEVER THE INPUT: true; the input reads as it did. -/
def topErrorsSpec : ChangeSpec := { name := "topErrors", fn := fun _ => fun
  | [d1, d2] => { results := [.lit (.bool true)], args := [d1, d2] }
  | _ => none }
def topErrorsRow : OpenClaim := { program := "ytnignhaamlmelaagreatdoor", sum := "d1827c863ccdb62793477330d9d8da715e94f5a86461204c16d83633cf13a969", func := "turnrow/turnrowtop.TopErrors", spec := "topErrors", inPlace := ["slices.overlaps[int]"], unfollowed := true, recurses := true, named := ["math/bits.deBruijn64tab"], plainKeys := false, apart := false, laid := [("math/bits.deBruijn64tab", laid_math_bits_deBruijn64tab)] }
def TopErrorsSaid : Prop := topErrorsRow.holds Tryz.pinned (OpenSpec.ofChange topErrorsSpec)

/-- ITS FALSE NEIGHBOUR: 'it returns false'. Refute it at one input. -/
def topErrorsWrong : ChangeSpec := { name := "topErrors", fn := fun _ => fun
  | [d1, d2] => { results := [.lit (.bool false)], args := [d1, d2] }
  | _ => none }
def TopErrorsWrongFalsely : Prop := topErrorsRow.holds Tryz.pinned (OpenSpec.ofChange topErrorsWrong)

/-- 'turnrowlaw18.AuditNone': WHATEVER THE INPUT: true; the input reads as it did. -/
def auditNoneSpec : ChangeSpec := { name := "auditNone", fn := fun _ => fun
  | [d] => { results := [.lit (.bool true)], args := [d] }
  | _ => none }
def auditNoneRow : OpenClaim := { program := "ytnignhaamlmelaagreatdoor", sum := "d1827c863ccdb62793477330d9d8da715e94f5a86461204c16d83633cf13a969", func := "turnrow/turnrowlaw18.AuditNone", spec := "auditNone", unfollowed := true, recurses := true, named := ["math/bits.deBruijn64tab"], plainKeys := false, apart := false, laid := [("math/bits.deBruijn64tab", laid_math_bits_deBruijn64tab)] }
def AuditNoneSaid : Prop := auditNoneRow.holds Tryz.pinned (OpenSpec.ofChange auditNoneSpec)

/-- ITS FALSE NEIGHBOUR: 'it returns false'. Refute it at one input. -/
def auditNoneWrong : ChangeSpec := { name := "auditNone", fn := fun _ => fun
  | [d] => { results := [.lit (.bool false)], args := [d] }
  | _ => none }
def AuditNoneWrongFalsely : Prop := auditNoneRow.holds Tryz.pinned (OpenSpec.ofChange auditNoneWrong)

/-- 'turnrowlaw15.CellWhole': WHATEVER THE INPUT: true; the input reads as it did. -/
def cellWholeSpec : ChangeSpec := { name := "cellWhole", fn := fun _ => fun
  | [d1, d2] => { results := [.lit (.bool true)], args := [d1, d2] }
  | _ => none }
def cellWholeRow : OpenClaim := { program := "ytnignhaamlmelaagreatdoor", sum := "d1827c863ccdb62793477330d9d8da715e94f5a86461204c16d83633cf13a969", func := "turnrow/turnrowlaw15.CellWhole", spec := "cellWhole", inPlace := ["slices.overlaps[int]"], unfollowed := true, recurses := true, named := ["math/bits.deBruijn64tab"], plainKeys := false, apart := false, laid := [("math/bits.deBruijn64tab", laid_math_bits_deBruijn64tab)] }
def CellWholeSaid : Prop := cellWholeRow.holds Tryz.pinned (OpenSpec.ofChange cellWholeSpec)

/-- ITS FALSE NEIGHBOUR: 'it returns false'. Refute it at one input. -/
def cellWholeWrong : ChangeSpec := { name := "cellWhole", fn := fun _ => fun
  | [d1, d2] => { results := [.lit (.bool false)], args := [d1, d2] }
  | _ => none }
def CellWholeWrongFalsely : Prop := cellWholeRow.holds Tryz.pinned (OpenSpec.ofChange cellWholeWrong)

/-- 'turnrowlaw15.CellNews': WHATEVER THE INPUT: true; the input reads as it did. -/
def cellNewsSpec : ChangeSpec := { name := "cellNews", fn := fun _ => fun
  | [d1, d2] => { results := [.lit (.bool true)], args := [d1, d2] }
  | _ => none }
def cellNewsRow : OpenClaim := { program := "ytnignhaamlmelaagreatdoor", sum := "d1827c863ccdb62793477330d9d8da715e94f5a86461204c16d83633cf13a969", func := "turnrow/turnrowlaw15.CellNews", spec := "cellNews", inPlace := ["slices.overlaps[int]"], unfollowed := true, recurses := true, named := ["math/bits.deBruijn64tab"], plainKeys := false, apart := false, laid := [("math/bits.deBruijn64tab", laid_math_bits_deBruijn64tab)] }
def CellNewsSaid : Prop := cellNewsRow.holds Tryz.pinned (OpenSpec.ofChange cellNewsSpec)

/-- ITS FALSE NEIGHBOUR: 'it returns false'. Refute it at one input. -/
def cellNewsWrong : ChangeSpec := { name := "cellNews", fn := fun _ => fun
  | [d1, d2] => { results := [.lit (.bool false)], args := [d1, d2] }
  | _ => none }
def CellNewsWrongFalsely : Prop := cellNewsRow.holds Tryz.pinned (OpenSpec.ofChange cellNewsWrong)

/-- 'turnrowlaw16.JoinNone': WHATEVER THE INPUT: true; the input reads as it did. -/
def joinNoneSpec : ChangeSpec := { name := "joinNone", fn := fun _ => fun
  | [d1, d2, d3] => { results := [.lit (.bool true)], args := [d1, d2, d3] }
  | _ => none }
def joinNoneRow : OpenClaim := { program := "ytnignhaamlmelaagreatdoor", sum := "d1827c863ccdb62793477330d9d8da715e94f5a86461204c16d83633cf13a969", func := "turnrow/turnrowlaw16.JoinNone", spec := "joinNone", inPlace := ["slices.overlaps[int]"], unfollowed := true, recurses := true, named := ["math/bits.deBruijn64tab"], plainKeys := false, apart := false, laid := [("math/bits.deBruijn64tab", laid_math_bits_deBruijn64tab)] }
def JoinNoneSaid : Prop := joinNoneRow.holds Tryz.pinned (OpenSpec.ofChange joinNoneSpec)

/-- ITS FALSE NEIGHBOUR: 'it returns false'. Refute it at one input. -/
def joinNoneWrong : ChangeSpec := { name := "joinNone", fn := fun _ => fun
  | [d1, d2, d3] => { results := [.lit (.bool false)], args := [d1, d2, d3] }
  | _ => none }
def JoinNoneWrongFalsely : Prop := joinNoneRow.holds Tryz.pinned (OpenSpec.ofChange joinNoneWrong)

/-- 'turnrowlaw16.JoinActs': WHATEVER THE INPUT: true; the input reads as it did. -/
def joinActsSpec : ChangeSpec := { name := "joinActs", fn := fun _ => fun
  | [d1, d2] => { results := [.lit (.bool true)], args := [d1, d2] }
  | _ => none }
def joinActsRow : OpenClaim := { program := "ytnignhaamlmelaagreatdoor", sum := "d1827c863ccdb62793477330d9d8da715e94f5a86461204c16d83633cf13a969", func := "turnrow/turnrowlaw16.JoinActs", spec := "joinActs", inPlace := ["slices.overlaps[int]"], unfollowed := true, recurses := true, named := ["math/bits.deBruijn64tab"], plainKeys := false, apart := false, laid := [("math/bits.deBruijn64tab", laid_math_bits_deBruijn64tab)] }
def JoinActsSaid : Prop := joinActsRow.holds Tryz.pinned (OpenSpec.ofChange joinActsSpec)

/-- ITS FALSE NEIGHBOUR: 'it returns false'. Refute it at one input. -/
def joinActsWrong : ChangeSpec := { name := "joinActs", fn := fun _ => fun
  | [d1, d2] => { results := [.lit (.bool false)], args := [d1, d2] }
  | _ => none }
def JoinActsWrongFalsely : Prop := joinActsRow.holds Tryz.pinned (OpenSpec.ofChange joinActsWrong)

/-- 'turnrowlaw16.JoinStays': WHATEVER THE INPUT: true; the input reads as it did. -/
def joinStaysSpec : ChangeSpec := { name := "joinStays", fn := fun _ => fun
  | [d1, d2, d3] => { results := [.lit (.bool true)], args := [d1, d2, d3] }
  | _ => none }
def joinStaysRow : OpenClaim := { program := "ytnignhaamlmelaagreatdoor", sum := "d1827c863ccdb62793477330d9d8da715e94f5a86461204c16d83633cf13a969", func := "turnrow/turnrowlaw16.JoinStays", spec := "joinStays", inPlace := ["slices.overlaps[int]"], unfollowed := true, recurses := true, named := ["math/bits.deBruijn64tab"], plainKeys := false, apart := false, laid := [("math/bits.deBruijn64tab", laid_math_bits_deBruijn64tab)] }
def JoinStaysSaid : Prop := joinStaysRow.holds Tryz.pinned (OpenSpec.ofChange joinStaysSpec)

/-- ITS FALSE NEIGHBOUR: 'it returns false'. Refute it at one input. -/
def joinStaysWrong : ChangeSpec := { name := "joinStays", fn := fun _ => fun
  | [d1, d2, d3] => { results := [.lit (.bool false)], args := [d1, d2, d3] }
  | _ => none }
def JoinStaysWrongFalsely : Prop := joinStaysRow.holds Tryz.pinned (OpenSpec.ofChange joinStaysWrong)

/-- 'turnrowtop.TopAbort': WHATEVER THE INPUT: true; the input reads as it did. -/
def topAbortSpec : ChangeSpec := { name := "topAbort", fn := fun _ => fun
  | [d1, d2, d3] => { results := [.lit (.bool true)], args := [d1, d2, d3] }
  | _ => none }
def topAbortRow : OpenClaim := { program := "ytnignhaamlmelaagreatdoor", sum := "d1827c863ccdb62793477330d9d8da715e94f5a86461204c16d83633cf13a969", func := "turnrow/turnrowtop.TopAbort", spec := "topAbort", inPlace := ["slices.overlaps[int]"], unfollowed := true, recurses := true, named := ["math/bits.deBruijn64tab"], plainKeys := false, apart := false, laid := [("math/bits.deBruijn64tab", laid_math_bits_deBruijn64tab)] }
def TopAbortSaid : Prop := topAbortRow.holds Tryz.pinned (OpenSpec.ofChange topAbortSpec)

/-- ITS FALSE NEIGHBOUR: 'it returns false'. Refute it at one input. -/
def topAbortWrong : ChangeSpec := { name := "topAbort", fn := fun _ => fun
  | [d1, d2, d3] => { results := [.lit (.bool false)], args := [d1, d2, d3] }
  | _ => none }
def TopAbortWrongFalsely : Prop := topAbortRow.holds Tryz.pinned (OpenSpec.ofChange topAbortWrong)

/-- 'turnrowlaw16.JoinFrees': WHATEVER THE INPUT: true; the input reads as it did. -/
def joinFreesSpec : ChangeSpec := { name := "joinFrees", fn := fun _ => fun
  | [d1, d2] => { results := [.lit (.bool true)], args := [d1, d2] }
  | _ => none }
def joinFreesRow : OpenClaim := { program := "ytnignhaamlmelaagreatdoor", sum := "d1827c863ccdb62793477330d9d8da715e94f5a86461204c16d83633cf13a969", func := "turnrow/turnrowlaw16.JoinFrees", spec := "joinFrees", inPlace := ["slices.overlaps[int]"], unfollowed := true, recurses := true, named := ["math/bits.deBruijn64tab"], plainKeys := false, apart := false, laid := [("math/bits.deBruijn64tab", laid_math_bits_deBruijn64tab)] }
def JoinFreesSaid : Prop := joinFreesRow.holds Tryz.pinned (OpenSpec.ofChange joinFreesSpec)

/-- ITS FALSE NEIGHBOUR: 'it returns false'. Refute it at one input. -/
def joinFreesWrong : ChangeSpec := { name := "joinFrees", fn := fun _ => fun
  | [d1, d2] => { results := [.lit (.bool false)], args := [d1, d2] }
  | _ => none }
def JoinFreesWrongFalsely : Prop := joinFreesRow.holds Tryz.pinned (OpenSpec.ofChange joinFreesWrong)

/-- 'turnrowlaw16.JoinGraves': WHATEVER THE INPUT: true; the input reads as it did. -/
def joinGravesSpec : ChangeSpec := { name := "joinGraves", fn := fun _ => fun
  | [d1, d2, d3] => { results := [.lit (.bool true)], args := [d1, d2, d3] }
  | _ => none }
def joinGravesRow : OpenClaim := { program := "ytnignhaamlmelaagreatdoor", sum := "d1827c863ccdb62793477330d9d8da715e94f5a86461204c16d83633cf13a969", func := "turnrow/turnrowlaw16.JoinGraves", spec := "joinGraves", inPlace := ["slices.overlaps[int]"], unfollowed := true, recurses := true, named := ["math/bits.deBruijn64tab"], plainKeys := false, apart := false, laid := [("math/bits.deBruijn64tab", laid_math_bits_deBruijn64tab)] }
def JoinGravesSaid : Prop := joinGravesRow.holds Tryz.pinned (OpenSpec.ofChange joinGravesSpec)

/-- ITS FALSE NEIGHBOUR: 'it returns false'. Refute it at one input. -/
def joinGravesWrong : ChangeSpec := { name := "joinGraves", fn := fun _ => fun
  | [d1, d2, d3] => { results := [.lit (.bool false)], args := [d1, d2, d3] }
  | _ => none }
def JoinGravesWrongFalsely : Prop := joinGravesRow.holds Tryz.pinned (OpenSpec.ofChange joinGravesWrong)

/-- 'turnrowlaw16.JoinWhole': WHATEVER THE INPUT: true; the input reads as it did. -/
def joinWholeSpec : ChangeSpec := { name := "joinWhole", fn := fun _ => fun
  | [d1, d2] => { results := [.lit (.bool true)], args := [d1, d2] }
  | _ => none }
def joinWholeRow : OpenClaim := { program := "ytnignhaamlmelaagreatdoor", sum := "d1827c863ccdb62793477330d9d8da715e94f5a86461204c16d83633cf13a969", func := "turnrow/turnrowlaw16.JoinWhole", spec := "joinWhole", inPlace := ["slices.overlaps[int]"], unfollowed := true, recurses := true, named := ["math/bits.deBruijn64tab"], plainKeys := false, apart := false, laid := [("math/bits.deBruijn64tab", laid_math_bits_deBruijn64tab)] }
def JoinWholeSaid : Prop := joinWholeRow.holds Tryz.pinned (OpenSpec.ofChange joinWholeSpec)

/-- ITS FALSE NEIGHBOUR: 'it returns false'. Refute it at one input. -/
def joinWholeWrong : ChangeSpec := { name := "joinWhole", fn := fun _ => fun
  | [d1, d2] => { results := [.lit (.bool false)], args := [d1, d2] }
  | _ => none }
def JoinWholeWrongFalsely : Prop := joinWholeRow.holds Tryz.pinned (OpenSpec.ofChange joinWholeWrong)

/-- 'turnrowlaw16.JoinParts': WHATEVER THE INPUT: true; the input reads as it did. -/
def joinPartsSpec : ChangeSpec := { name := "joinParts", fn := fun _ => fun
  | [d1, d2, d3] => { results := [.lit (.bool true)], args := [d1, d2, d3] }
  | _ => none }
def joinPartsRow : OpenClaim := { program := "ytnignhaamlmelaagreatdoor", sum := "d1827c863ccdb62793477330d9d8da715e94f5a86461204c16d83633cf13a969", func := "turnrow/turnrowlaw16.JoinParts", spec := "joinParts", inPlace := ["slices.overlaps[int]"], unfollowed := true, recurses := true, named := ["math/bits.deBruijn64tab"], plainKeys := false, apart := false, laid := [("math/bits.deBruijn64tab", laid_math_bits_deBruijn64tab)] }
def JoinPartsSaid : Prop := joinPartsRow.holds Tryz.pinned (OpenSpec.ofChange joinPartsSpec)

/-- ITS FALSE NEIGHBOUR: 'it returns false'. Refute it at one input. -/
def joinPartsWrong : ChangeSpec := { name := "joinParts", fn := fun _ => fun
  | [d1, d2, d3] => { results := [.lit (.bool false)], args := [d1, d2, d3] }
  | _ => none }
def JoinPartsWrongFalsely : Prop := joinPartsRow.holds Tryz.pinned (OpenSpec.ofChange joinPartsWrong)

/- THE SECOND FORM. 'bulk': how many values and letters a reading holds, each counted each time it is reached (what is shared counts as often as it is met; a slice's spare places count too). A statement '..UptoSaid' is the law's where the arguments, and the package variables that the reading takes, are together of bulk at most 1048576: NARROWER than '..Said'. Prove '..Said' where nothing that the law and all that it calls make is longer than what came in: it says more and counts as full. Else prove '..UptoSaid'. A law counts once. -/
mutual
def uptoBulk {H : Type} : DataW H → Nat
  | .lit (.string bytes) => bytes.length + 1
  | .lit _ => 1
  | .nil => 1
  | .ptr d => uptoBulk d + 1
  | .slice elems spare => uptoBulkAll elems + uptoBulkAll spare + 1
  | .agg parts => uptoBulkAll parts + 1
  | .iface _ d => uptoBulk d + 1
  | .map entries => uptoBulkEntries entries + 1
  | .held _ => 1
def uptoBulkAll {H : Type} : List (DataW H) → Nat
  | [] => 0
  | d :: r => uptoBulk d + uptoBulkAll r
def uptoBulkEntries {H : Type} : List (Lit × DataW H) → Nat
  | [] => 0
  | x :: r => uptoBulkEntry x + uptoBulkEntries r
def uptoBulkEntry {H : Type} : Lit × DataW H → Nat
  | (.string bytes, d) => bytes.length + uptoBulk d + 1
  | (_, d) => uptoBulk d + 1
 end
def uptoSmall : (H : Type) → List (DataW H) → Bool := fun _ ds => decide (uptoBulkAll ds ≤ 1048576)
def OpenSpec.upto (s : _root_.Go.ChangeSpec) : _root_.Go.OpenSpec := { _root_.Go.OpenSpec.ofChange s with cond := some uptoSmall }

/-- 'turnrowtop.TopErrors', WHERE WHAT IT READS IS OF BULK AT MOST 1048576: true; the input reads as it did. -/
def topErrorsUptoRow : OpenClaim := { program := "ytnignhaamlmelaagreatdoor", sum := "d1827c863ccdb62793477330d9d8da715e94f5a86461204c16d83633cf13a969", func := "turnrow/turnrowtop.TopErrors", spec := "topErrors", inPlace := ["slices.overlaps[int]"], unfollowed := true, recurses := true, named := ["math/bits.deBruijn64tab"], plainKeys := false, apart := false, laid := [("math/bits.deBruijn64tab", laid_math_bits_deBruijn64tab)], narrowed := true }
def TopErrorsUptoSaid : Prop := topErrorsUptoRow.holds Tryz.pinned (OpenSpec.upto topErrorsSpec)

/-- 'turnrowlaw18.AuditNone', WHERE WHAT IT READS IS OF BULK AT MOST 1048576: true; the input reads as it did. -/
def auditNoneUptoRow : OpenClaim := { program := "ytnignhaamlmelaagreatdoor", sum := "d1827c863ccdb62793477330d9d8da715e94f5a86461204c16d83633cf13a969", func := "turnrow/turnrowlaw18.AuditNone", spec := "auditNone", unfollowed := true, recurses := true, named := ["math/bits.deBruijn64tab"], plainKeys := false, apart := false, laid := [("math/bits.deBruijn64tab", laid_math_bits_deBruijn64tab)], narrowed := true }
def AuditNoneUptoSaid : Prop := auditNoneUptoRow.holds Tryz.pinned (OpenSpec.upto auditNoneSpec)

/-- 'turnrowlaw15.CellWhole', WHERE WHAT IT READS IS OF BULK AT MOST 1048576: true; the input reads as it did. -/
def cellWholeUptoRow : OpenClaim := { program := "ytnignhaamlmelaagreatdoor", sum := "d1827c863ccdb62793477330d9d8da715e94f5a86461204c16d83633cf13a969", func := "turnrow/turnrowlaw15.CellWhole", spec := "cellWhole", inPlace := ["slices.overlaps[int]"], unfollowed := true, recurses := true, named := ["math/bits.deBruijn64tab"], plainKeys := false, apart := false, laid := [("math/bits.deBruijn64tab", laid_math_bits_deBruijn64tab)], narrowed := true }
def CellWholeUptoSaid : Prop := cellWholeUptoRow.holds Tryz.pinned (OpenSpec.upto cellWholeSpec)

/-- 'turnrowlaw15.CellNews', WHERE WHAT IT READS IS OF BULK AT MOST 1048576: true; the input reads as it did. -/
def cellNewsUptoRow : OpenClaim := { program := "ytnignhaamlmelaagreatdoor", sum := "d1827c863ccdb62793477330d9d8da715e94f5a86461204c16d83633cf13a969", func := "turnrow/turnrowlaw15.CellNews", spec := "cellNews", inPlace := ["slices.overlaps[int]"], unfollowed := true, recurses := true, named := ["math/bits.deBruijn64tab"], plainKeys := false, apart := false, laid := [("math/bits.deBruijn64tab", laid_math_bits_deBruijn64tab)], narrowed := true }
def CellNewsUptoSaid : Prop := cellNewsUptoRow.holds Tryz.pinned (OpenSpec.upto cellNewsSpec)

/-- 'turnrowlaw16.JoinNone', WHERE WHAT IT READS IS OF BULK AT MOST 1048576: true; the input reads as it did. -/
def joinNoneUptoRow : OpenClaim := { program := "ytnignhaamlmelaagreatdoor", sum := "d1827c863ccdb62793477330d9d8da715e94f5a86461204c16d83633cf13a969", func := "turnrow/turnrowlaw16.JoinNone", spec := "joinNone", inPlace := ["slices.overlaps[int]"], unfollowed := true, recurses := true, named := ["math/bits.deBruijn64tab"], plainKeys := false, apart := false, laid := [("math/bits.deBruijn64tab", laid_math_bits_deBruijn64tab)], narrowed := true }
def JoinNoneUptoSaid : Prop := joinNoneUptoRow.holds Tryz.pinned (OpenSpec.upto joinNoneSpec)

/-- 'turnrowlaw16.JoinActs', WHERE WHAT IT READS IS OF BULK AT MOST 1048576: true; the input reads as it did. -/
def joinActsUptoRow : OpenClaim := { program := "ytnignhaamlmelaagreatdoor", sum := "d1827c863ccdb62793477330d9d8da715e94f5a86461204c16d83633cf13a969", func := "turnrow/turnrowlaw16.JoinActs", spec := "joinActs", inPlace := ["slices.overlaps[int]"], unfollowed := true, recurses := true, named := ["math/bits.deBruijn64tab"], plainKeys := false, apart := false, laid := [("math/bits.deBruijn64tab", laid_math_bits_deBruijn64tab)], narrowed := true }
def JoinActsUptoSaid : Prop := joinActsUptoRow.holds Tryz.pinned (OpenSpec.upto joinActsSpec)

/-- 'turnrowlaw16.JoinStays', WHERE WHAT IT READS IS OF BULK AT MOST 1048576: true; the input reads as it did. -/
def joinStaysUptoRow : OpenClaim := { program := "ytnignhaamlmelaagreatdoor", sum := "d1827c863ccdb62793477330d9d8da715e94f5a86461204c16d83633cf13a969", func := "turnrow/turnrowlaw16.JoinStays", spec := "joinStays", inPlace := ["slices.overlaps[int]"], unfollowed := true, recurses := true, named := ["math/bits.deBruijn64tab"], plainKeys := false, apart := false, laid := [("math/bits.deBruijn64tab", laid_math_bits_deBruijn64tab)], narrowed := true }
def JoinStaysUptoSaid : Prop := joinStaysUptoRow.holds Tryz.pinned (OpenSpec.upto joinStaysSpec)

/-- 'turnrowtop.TopAbort', WHERE WHAT IT READS IS OF BULK AT MOST 1048576: true; the input reads as it did. -/
def topAbortUptoRow : OpenClaim := { program := "ytnignhaamlmelaagreatdoor", sum := "d1827c863ccdb62793477330d9d8da715e94f5a86461204c16d83633cf13a969", func := "turnrow/turnrowtop.TopAbort", spec := "topAbort", inPlace := ["slices.overlaps[int]"], unfollowed := true, recurses := true, named := ["math/bits.deBruijn64tab"], plainKeys := false, apart := false, laid := [("math/bits.deBruijn64tab", laid_math_bits_deBruijn64tab)], narrowed := true }
def TopAbortUptoSaid : Prop := topAbortUptoRow.holds Tryz.pinned (OpenSpec.upto topAbortSpec)

/-- 'turnrowlaw16.JoinFrees', WHERE WHAT IT READS IS OF BULK AT MOST 1048576: true; the input reads as it did. -/
def joinFreesUptoRow : OpenClaim := { program := "ytnignhaamlmelaagreatdoor", sum := "d1827c863ccdb62793477330d9d8da715e94f5a86461204c16d83633cf13a969", func := "turnrow/turnrowlaw16.JoinFrees", spec := "joinFrees", inPlace := ["slices.overlaps[int]"], unfollowed := true, recurses := true, named := ["math/bits.deBruijn64tab"], plainKeys := false, apart := false, laid := [("math/bits.deBruijn64tab", laid_math_bits_deBruijn64tab)], narrowed := true }
def JoinFreesUptoSaid : Prop := joinFreesUptoRow.holds Tryz.pinned (OpenSpec.upto joinFreesSpec)

/-- 'turnrowlaw16.JoinGraves', WHERE WHAT IT READS IS OF BULK AT MOST 1048576: true; the input reads as it did. -/
def joinGravesUptoRow : OpenClaim := { program := "ytnignhaamlmelaagreatdoor", sum := "d1827c863ccdb62793477330d9d8da715e94f5a86461204c16d83633cf13a969", func := "turnrow/turnrowlaw16.JoinGraves", spec := "joinGraves", inPlace := ["slices.overlaps[int]"], unfollowed := true, recurses := true, named := ["math/bits.deBruijn64tab"], plainKeys := false, apart := false, laid := [("math/bits.deBruijn64tab", laid_math_bits_deBruijn64tab)], narrowed := true }
def JoinGravesUptoSaid : Prop := joinGravesUptoRow.holds Tryz.pinned (OpenSpec.upto joinGravesSpec)

/-- 'turnrowlaw16.JoinWhole', WHERE WHAT IT READS IS OF BULK AT MOST 1048576: true; the input reads as it did. -/
def joinWholeUptoRow : OpenClaim := { program := "ytnignhaamlmelaagreatdoor", sum := "d1827c863ccdb62793477330d9d8da715e94f5a86461204c16d83633cf13a969", func := "turnrow/turnrowlaw16.JoinWhole", spec := "joinWhole", inPlace := ["slices.overlaps[int]"], unfollowed := true, recurses := true, named := ["math/bits.deBruijn64tab"], plainKeys := false, apart := false, laid := [("math/bits.deBruijn64tab", laid_math_bits_deBruijn64tab)], narrowed := true }
def JoinWholeUptoSaid : Prop := joinWholeUptoRow.holds Tryz.pinned (OpenSpec.upto joinWholeSpec)

/-- 'turnrowlaw16.JoinParts', WHERE WHAT IT READS IS OF BULK AT MOST 1048576: true; the input reads as it did. -/
def joinPartsUptoRow : OpenClaim := { program := "ytnignhaamlmelaagreatdoor", sum := "d1827c863ccdb62793477330d9d8da715e94f5a86461204c16d83633cf13a969", func := "turnrow/turnrowlaw16.JoinParts", spec := "joinParts", inPlace := ["slices.overlaps[int]"], unfollowed := true, recurses := true, named := ["math/bits.deBruijn64tab"], plainKeys := false, apart := false, laid := [("math/bits.deBruijn64tab", laid_math_bits_deBruijn64tab)], narrowed := true }
def JoinPartsUptoSaid : Prop := joinPartsUptoRow.holds Tryz.pinned (OpenSpec.upto joinPartsSpec)

end Rows
end Go.Proofs.YtnignhaamlmelaaGreatDoor
