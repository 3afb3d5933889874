/- turnrowlaw18.AuditNone: of none, and of a heap without Cells, nothing is told: for every region the call returns true, and the argument reads as it did. No conditions but the listed table, which the card ties to the program's text. -/
import Derived.Test.YtnignhaamlmelaaGreatDoorKb
import Derived.Test.YtnignhaamlmelaaGreatDoorKt
import Derived.Test.YtnignhaamlmelaaGreatDoorLa18
import Derived.Stop.Joined
namespace Go.Proofs.YtnignhaamlmelaaGreatDoor
open Go Go.Sl Go.ChangeShapes Go.WideShapes Go.ChangeAt Go.RowKit
set_option maxRecDepth 100000 in
theorem auditNone_lifted (os : Os) (started : os.Started) (H : Type) (enc : TypeId × Value → H) :
    ReturnsInHanded {} Tryz.checked os 4 .any (fun w args => (Rows.auditNoneSpec.pre enc Tryz.prog Tryz.f4 [] false w args ∧ laidMetH Tryz.prog tabLaid w) ∧ sizedMet enc Tryz.prog Tryz.f4 (OpenSpec.ofChange Rows.auditNoneSpec) false w args)
      (Rows.auditNoneSpec.post enc Tryz.prog Tryz.f4 false true false false) := by
  refine returnsInHanded_of_change_and (C := Tryz.checked) (X := fun w _ => laidMetH Tryz.prog tabLaid w) (fun _ _ _ hh h => h.of_heap hh) kown started (by kernel_rfl) Tryz.func4
    (ChangeSpec.witness_shaped (enc := enc) (C := Tryz.checked) (os := os) (X := fun w _ => laidMetH Tryz.prog tabLaid w) false (World.doorLaid Tryz.prog 400 os) #[.int .i64 0] 8 rfl (door_shaped os _) (by kernel_rfl) (by kernel_rfl) (by kernel_rfl) (door_met os _)) ?_
  intro W base args ds gs before hval0 hW _ _ hL _
  have hval : ∀ (j : Nat) t v, Tryz.f4.params[j]? = some t → args[j]? = some v → Value.okWide Tryz.prog W .any base t v := hval0
  have hW' := hW
  obtain ⟨p, q, hA0, hV, rfl, hfz, hnd⟩ := hW
  have hA : DataW.TrodAll enc Tryz.prog W 0 (fun _ => true) true Tryz.f4.params.toList args.toList ds p := hA0
  rw [Tryz.params4] at hA hval
  obtain ⟨v0, d0, rfl, rfl, h0⟩ := trodAll_one hA
  obtain ⟨rfl, rfl⟩ := trodVars_none hV
  obtain ⟨x, rfl, rfl, rfl, hx⟩ := open_int Tryz.underlying3 (hval 0 3 v0 rfl rfl) h0
  refine (law_calls (law_AuditNone x) (whole_sat (amb_of_laid hL))).mono fun e W' ⟨he, hk⟩ => ?_
  subst he
  simp only [List.append_nil] at hW'
  refine ⟨_, rfl, _, _, _, [], [], [], hW', ?_, ?_, ?_, hk.keptBut _, fun h => by cases h⟩
  · exact trodAll_mk1 (shut_bool Tryz.underlying4 true)
  · exact trodAll_mk1 (shut_int Tryz.underlying3 hx)
  · rfl
end Go.Proofs.YtnignhaamlmelaaGreatDoor
