/- What this seat's condition on the one package-level variable gives: the table of 64 numbers at block 0. -/
import Derived.Test.YtnignhaamlmelaaGreatDoorRows
import Derived.Test.YtnignhaamlmelaaGreatDoorSl15
import Derived.ProofKit
import Derived.LaidMore
import Derived.LaidHandle
import Derived.OpenShut
import Derived.MakeChecks
namespace Go.Proofs.YtnignhaamlmelaaGreatDoor
open Go Go.Sl Go.ChangeShapes Go.WideShapes Go.ChangeAt Go.RowKit
abbrev tabLaid : List (String × DataW Unit) := Rows.auditNoneRow.laid
/-- the table, as the condition tells it -/
theorem amb_of_laid {W : World} (h : laidMetH Tryz.prog tabLaid W) : AmbO (W.heap[0]?) := by
  rw [MakeChecks.laidMetH_plain _ _ _ (by kernel_rfl)] at h
  obtain ⟨ps, ⟨g0, t0, cs0, f0, p0, q0, hg0, ht0, hv0, hd0, _, _⟩, _⟩ := h
  obtain rfl : g0 = 0 := Option.some.inj (hg0.symm.trans (by kernel_rfl))
  obtain rfl : t0 = 429 := Option.some.inj (ht0.symm.trans (by kernel_rfl))
  have hu : Tryz.prog.underlying 429 = some (.array 64 5) := by kernel_rfl
  have hu8 : Tryz.prog.underlying 5 = some (.int .u8) := by kernel_rfl
  have hc : Tryz.prog.cellsOf 5 = 1 := by kernel_rfl
  obtain ⟨xs, m1, rfl, hx1, hlen, hn, hel⟩ := DataW.trod_array hu hd0
  have htab : Rows.laid_math_bits_deBruijn64tab = DataW.agg (H := Unit) (tab64.map fun v : Nat => .lit (.int .u8 (v : Int))) := rfl
  rw [htab] at hx1
  have hx2 := congrArg Prod.fst hx1
  simp only [DataW.agg.injEq] at hx2
  have hblk : ∃ t fz, W.heap[0]? = some (.cells cs0 t fz) := by
    simp only [World.var?, hg0, Option.bind_some] at hv0
    split at hv0
    · rename_i e
      cases hv0; exact ⟨_, _, e⟩
    · cases hv0
  obtain ⟨t, fz, hb⟩ := hblk
  refine ⟨cs0, t, fz, hb, fun i v hv => ?_⟩
  have hi : i < 64 := (List.getElem?_eq_some_iff.1 hv).1
  have h0 := hel i hi
  rw [List.getElem?_eq_getElem (by omega)] at h0
  obtain ⟨k, e1, e2, _⟩ := DataW.trod_int hu8 h0
  rw [hc, Nat.mul_one] at e1
  have e3 : cs0.toList[i]? = some (.int .u8 k) := by
    have := congrArg (fun l => l[0]?) e1
    simpa using this
  have e4 : (xs.map (·.1))[i]? = some (.lit (.int .u8 k)) := by
    rw [List.getElem?_map, List.getElem?_eq_getElem (by omega), e2]; rfl
  rw [← hx2, List.getElem?_map, hv] at e4
  simp only [Option.map_some, Option.some.injEq, DataW.lit.injEq, Lit.int.injEq] at e4
  rw [e4.2]
  simpa using e3
/-- The door's own heap meets the condition. -/
theorem door_met (os : Os) (args : Array Value) : laidMetH Tryz.prog tabLaid ((World.doorLaid Tryz.prog 400 os).forCall (fun _ _ => 0) ⟨#[], args, []⟩).memory :=
  laidMetH_of_parts3 (fuel := 8) (laidMet_of_run' 8 (by kernel_rfl) (by kernel_rfl)) (by kernel_rfl) (by kernel_rfl)
theorem door_shaped (os : Os) (args : Array Value) : ((World.doorLaid Tryz.prog 400 os).forCall (fun _ _ => 0) ⟨#[], args, []⟩).Shaped Tryz.prog := World.shaped_of_RefB (by kernel_rfl) (by kernel_rfl)
end Go.Proofs.YtnignhaamlmelaaGreatDoor
