/- turnrow, the law AuditNone: the row's statement out of the lifted contract, and the card, tied to the program's text. -/
import Derived.Test.YtnignhaamlmelaaGreatDoorTie
import Derived.Test.YtnignhaamlmelaaGreatDoorCards
import Derived.Test.YtnignhaamlmelaaGreatDoorKa
import Derived.Test.YtnignhaamlmelaaGreatDoorKb
import Derived.Test.YtnignhaamlmelaaGreatDoorKAuditNone
import Derived.Test.YtnignhaamlmelaaGreatDoorRAuditNone
import Derived.SevenTiedAt
namespace Go.Proofs.YtnignhaamlmelaaGreatDoor
open Go Go.Sl
theorem auditNone_closed : joinedFacts Tryz.prog 4 Tryz.f4 Rows.auditNoneSpec Rows.auditNoneRow = true :=
  joined_of (by kernel_rfl) ka2 ka3 (by kernel_rfl) (by kernel_rfl) (by kernel_rfl) auditNone_k7 auditNone_k8 auditNone_k9 auditNone_k1 (by kernel_rfl) (by kernel_rfl) (by kernel_rfl) kb5
    (by rw [Bool.and_eq_true]; refine ⟨?_, kb62⟩; rw [Bool.and_eq_true]; refine ⟨?_, kb61⟩; rw [Bool.and_eq_true]; exact ⟨rfl, kb60⟩) auditNone_km (by kernel_rfl) (by kernel_rfl)
theorem auditNone_row : Rows.AuditNoneSaid :=
  OpenClaim.holds_of_wide 4 Tryz.f4 rfl rfl rfl rfl rfl rfl rfl ⟨rfl, rfl, rfl, rfl, rfl⟩ rfl rfl rfl rfl rfl (by kernel_rfl) Tryz.func4 auditNone_closed
    (of_decide_eq_true (by kernel_rfl)) (by unfold Func.isWrapper; first | (rw [if_pos (by decide +kernel)]; kernel_rfl) | (rw [if_neg (by decide +kernel)]; exact ⟨rfl, rfl⟩))
    (fun os started H enc _ => auditNone_lifted os started H enc)
/-- the statement -/
theorem auditNone_holds : Rows.AuditNoneCardSaid :=
  Claim7.holds_tied_plain_at .later [] [.data] true Rows.auditNoneCard.stood.harness false
    auditNone_row (fun _ h => by cases h) (by kernel_rfl) (fun _ h => by cases h) auditNone_row_tie rfl ⟨rfl, rfl⟩ (by kernel_rfl) rfl
    (fun f fn hf hfn => by
      obtain rfl : f = 4 := (Option.some.inj ((show Tryz.prog.funcNamed Rows.auditNoneRow.func = some 4 by kernel_rfl).symm.trans hf)).symm
      obtain rfl : fn = Tryz.f4 := (Option.some.inj (Tryz.func4.symm.trans hfn)).symm
      refine ⟨by kernel_rfl, fun j t ht => ?_⟩
      rw [Tryz.params4] at ht
      have hw : ([3] : List TypeId).all (fun t => !Tryz.prog.wantsStandIn t) = true := by kernel_rfl
      have := List.all_eq_true.1 hw t (by have := Array.mem_of_getElem? ht; simpa using this)
      have h2 : Tryz.prog.wantsStandIn t = false := by simpa using this
      exact h2)
    auditNone_kg
#print axioms auditNone_holds
end Go.Proofs.YtnignhaamlmelaaGreatDoor
