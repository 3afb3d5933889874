/- Keys: whole numbers, pairs of whole numbers. -/
import Derived.Test.YtnignhaamlmelaaGreatDoorSl12
namespace Go.Sl
open Go
abbrev it (i : Int) : Value := .int .i64 i
abbrev wd (w : Nat) : Value := .int .u64 (w : Int)
abbrev ptr (b : Nat) : Value := .pointer (some ⟨b, 0, none⟩)
/-- a pair of whole numbers, as a struct's value -/
abbrev it2 (x : Int × Int) : Value := .agg #[.int .i64 x.1, .int .i64 x.2]
section
variable {P : Program}
theorem TKey.int {kt : TypeId} (h : TInt P kt .i64) : TKey P kt it where
  eq a b w := by
    unfold Op.equal Op.maxDepth Op.equalIn
    simp [run_underlying h.out, beq_dec]
  chk e a w := by
    unfold Instr.checkKey
    simp [run_underlying h.out]
  same a := by simp [Instr.sameBits]
  now := ⟨_, h.out, .inl fun a b => by simp [Instr.sameNow, beq_dec]⟩
theorem TKey.pair {kt : TypeId} (h : TFlat P kt [some .i64, some .i64]) (hf : ∃ f1 f2, P.underlying kt = some (.struct #[f1, f2]) ∧ f1.name ≠ "_" ∧ f2.name ≠ "_" ∧ f1.offset = 0 ∧ f2.offset = 1 ∧ P.underlying f1.type = some (.int .i64) ∧ P.underlying f2.type = some (.int .i64)) : TKey P kt it2 where
  eq a b w := by
    have := flat_equal 5 10000 kt _ h.flat (by omega) [.int .i64 a.1, .int .i64 a.2] [.int .i64 b.1, .int .i64 b.2] (decide (a.1 = b.1) && (decide (a.2 = b.2) && true)) rfl w
    rw [h.val, h.val] at this
    have e : (decide (a.1 = b.1) && (decide (a.2 = b.2) && true)) = decide (a = b) := by
      rw [Bool.eq_iff_iff]; simp [Prod.ext_iff]
    rw [e] at this
    exact this
  chk e a w := by
    obtain ⟨f1, f2, h1, h2, h3, h4, h5, h6, h7⟩ := hf
    have s1 : TScal P f1.type := ⟨_, h6, rfl⟩
    have s2 : TScal P f2.type := ⟨_, h7, rfl⟩
    have c1 : ∀ (v : Int) (w : World), (Instr.checkKey e 9999 f1.type (.int .i64 v)).run P w = .ok () w := fun v w => by
      unfold Instr.checkKey; simp [run_underlying h6]
    have c2 : ∀ (v : Int) (w : World), (Instr.checkKey e 9999 f2.type (.int .i64 v)).run P w = .ok () w := fun v w => by
      unfold Instr.checkKey; simp [run_underlying h7]
    have p1 : (part f1.type #[Value.int .i64 a.1, .int .i64 a.2] 0).run P w = .ok (.int .i64 a.1) w := by simp [part, run_isAgg_scal s1]
    have p2 : (part f2.type #[Value.int .i64 a.1, .int .i64 a.2] 1).run P w = .ok (.int .i64 a.2) w := by simp [part, run_isAgg_scal s2]
    unfold Instr.checkKey
    simp only [Sem.run_bind, run_underlying h1, Result.andThen_ok]
    simp [h2, h3, h4, h5, p1, p2, c1, c2]
  same a := by simp [Instr.sameBits]
  now := by
    obtain ⟨f1, f2, h1, _⟩ := hf
    exact ⟨_, h1, .inr fun a b => by simp [Instr.sameNow]⟩
theorem TKey.pairOf {kt : TypeId} (h : TFlat P kt [some .i64, some .i64]) (hf : (P.underlying kt).map (fun x => match x with | .struct fs => (match fs.toList with | [f1, f2] => (f1.name != "_" && f2.name != "_" && f1.offset == 0 && f2.offset == 1 && (match P.underlying f1.type, P.underlying f2.type with | some (.int .i64), some (.int .i64) => true | _, _ => false)) | _ => false) | _ => false) = some true) : TKey P kt it2 :=
  TKey.pair h (by
    rw [Option.map_eq_some_iff] at hf
    obtain ⟨x, h1, h2⟩ := hf
    split at h2
    · rename_i fs
      split at h2
      · rename_i f1 f2 he
        simp only [Bool.and_eq_true, bne_iff_ne, ne_eq, beq_iff_eq] at h2
        obtain ⟨⟨⟨⟨a1, a2⟩, a3⟩, a4⟩, a5⟩ := h2
        have : fs = #[f1, f2] := Array.toList_inj.1 (by simpa using he)
        subst this
        split at a5
        · rename_i e1 e2; exact ⟨f1, f2, h1, a1, a2, a3, a4, e1, e2⟩
        · cases a5
      · cases h2
    · cases h2)
end
end Go.Sl
