/- From a contract of a law to a call that returns true and keeps all that there was. -/
import Derived.Test.YtnignhaamlmelaaGreatDoorSl14
import Derived.Handed
import Derived.JoinedOf
namespace Go.Sl
open Go
/-- all that a world has -/
def whole (W : World) : SP := fun h => (∀ b o, W.heap[b]? = some o → h b = some o) ∧ h.x = (W.os, W.output)
structure Kept (W W' : World) : Prop where
  os : W'.os = W.os
  out : W'.output = W.output
  block : ∀ i, i < W.heap.size → W'.heap[i]? = W.heap[i]?
theorem whole_sat {W : World} (h : AmbO (W.heap[0]?)) : Sat [whole W] (heapOf W) :=
  ⟨heapOf W, Hp.sub_refl _, ⟨fun _ _ e => e, rfl⟩, by rw [Sat, Hp.less_zero]; exact h⟩
theorem whole_kept {W W' : World} {L : List SP} (h : Sat (L ++ [whole W]) (heapOf W')) : Kept W W' := by
  obtain ⟨g, sg, ⟨a1, a2⟩, _⟩ := Sat.append_right h
  have e : (heapOf W').x = (W.os, W.output) := sg.2.symm.trans a2
  refine ⟨congrArg Prod.fst e, congrArg Prod.snd e, fun i hi => ?_⟩
  have h1 := sg.1 i W.heap[i] (a1 i _ (by simp [hi]))
  rw [show W'.heap[i]? = some W.heap[i] from h1]; simp [hi]
theorem Kept.keptBut {W W' : World} (h : Kept W W') (may : MemPlace → Prop) : W.keptBut W' may := by
  refine ⟨h.os, h.out, fun i hi => ?_⟩
  rw [h.block i hi]
  split <;> simp_all
theorem Kept.same {W W' : World} (h : Kept W W') {a : Addr} (ha : a.block < W.heap.size) : W'.cell? a = W.cell? a ∧ W'.frozen? a = W.frozen? a := by
  have := h.block _ ha
  constructor
  · simp [World.cell?, this]
  · simp [World.frozen?, this]
/-- a law's call -/
theorem law_calls {P : Program} {f : FuncId} {args : List Value} {Pre L : List SP} {W : World} (C : Ct P f args Pre (det (.bool true) L)) (h : Sat (Pre ++ [whole W]) (heapOf W)) :
    Calls P f args.toArray W fun e W' => e = .returned (.bool true) ∧ Kept W W' := by
  refine Calls.mono (CallsIn.calls (C [whole W] W h) (fun k => by simp [Fence.room])) fun e W' ⟨v, l, h1, h2, h3⟩ => ?_
  obtain ⟨rfl, rfl⟩ := h2
  exact ⟨h1, whole_kept h3⟩
/-- the closed facts of a row, one by one -/
theorem joined_of {P : Program} {f : FuncId} {fn : Func} {s : ChangeSpec} {c : OpenClaim}
    (a1 : c.wf (OpenSpec.ofChange s) = true) (a2 : laidOutB P = true) (a3 : mapsRowed P = true) (a4 : fn.params.all (P.readableRec ·) = true) (a5 : namedTie P c.named s.vars = true)
    (a6 : ((c.stops == []) && (P.stops == []) && (c.knobs == []) && (P.stopKnobs == [])) = true) (a7 : (c.inPlace == P.inPlace f) = true) (a8 : (c.unfollowed == P.unfollowed f) = true) (a9 : (c.recurses == P.recurses f) = true) (b1 : (c.named == P.varsNamed f) = true)
    (b2 : ((c.maps == (fn.params.toList ++ s.plain.varTypes P).any (P.mapsRec ·)) && (c.ifaces == (fn.params.toList ++ s.plain.varTypes P).any (P.ifacesRec ·)) && (c.mapsOut == P.mapsAmong fn.resultTypes.toList)) = true)
    (b3 : ((c.loops == (fn.params.toList ++ s.plain.varTypes P).any (P.loopsFrom ·)) && (c.wideKeys == (fn.params.toList ++ s.plain.varTypes P ++ fn.resultTypes.toList).any (P.wideKeysFrom ·))) = true)
    (b4 : (s.vars.all (P.varReadable ·) && fn.resultTypes.all (fun t => P.readableRec t && decide (t < P.types.size)) && (c.ifacesOut == fn.resultTypes.toList.any (P.ifacesRec ·)) && (c.loopsOut == fn.resultTypes.toList.any (P.loopsFrom ·))) = true)
    (b5 : (c.plainKeys == P.plainKeys) = true) (b6 : (c.shortTexts.isNone && P.stopsHeard && P.mayEnter && (c.lifted == P.liftsFinal)) = true) (b7 : (P.make == some c.make) = true)
    (b8 : ((c.kinds == (if c.domain.isEmpty then [] else fn.params.toList.map fun t => match P.underlying t with | some (.int k) => some k | _ => none)) && (c.pinned == c.pinnedBy)) = true)
    (b9 : ((c.veiled == (fn.params.toList ++ s.plain.varTypes P ++ fn.resultTypes.toList).any (P.veiledRec ·)) && c.veiledFits P fn.params.toList (fn.params.toList ++ s.plain.varTypes P ++ fn.resultTypes.toList)) = true) :
    joinedFacts P f fn s c = true := by
  unfold joinedFacts
  rw [Bool.and_eq_true] at b6 b4 b3 b2 b8 b9 a6
  obtain ⟨a6, a63⟩ := a6
  rw [Bool.and_eq_true] at a6
  obtain ⟨a6, a62⟩ := a6
  rw [Bool.and_eq_true] at a6
  obtain ⟨a60, a61⟩ := a6
  obtain ⟨b6, b63⟩ := b6
  rw [Bool.and_eq_true] at b6
  obtain ⟨b6, b62⟩ := b6
  rw [Bool.and_eq_true] at b6
  obtain ⟨b60, b61⟩ := b6
  obtain ⟨b4, b43⟩ := b4
  rw [Bool.and_eq_true] at b4
  obtain ⟨b4, b42⟩ := b4
  rw [Bool.and_eq_true] at b4
  obtain ⟨b40, b41⟩ := b4
  obtain ⟨b2, b22⟩ := b2
  rw [Bool.and_eq_true] at b2
  obtain ⟨b20, b21⟩ := b2
  obtain ⟨b30, b31⟩ := b3
  obtain ⟨b80, b81⟩ := b8
  obtain ⟨b90, b91⟩ := b9
  repeat (rw [Bool.and_eq_true]; refine ⟨?_, by assumption⟩)
  assumption
end Go.Sl
