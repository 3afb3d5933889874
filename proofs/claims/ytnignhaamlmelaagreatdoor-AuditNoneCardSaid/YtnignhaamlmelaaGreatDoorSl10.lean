/- Equality of structs; maps. -/
import Derived.Test.YtnignhaamlmelaaGreatDoorSl9
namespace Go.Sl
open Go

/-! ### Structs held against each other -/
def kEq : IntKind → IntKind → Bool
  | .i64, .i64 => true
  | .u64, .u64 => true
  | .u8, .u8 => true
  | .u32, .u32 => true
  | _, _ => false
theorem kEq_eq {a b : IntKind} (h : kEq a b = true) : a = b := by cases a <;> cases b <;> simp_all [kEq]
/-- one cell against another: a number of this kind, or (none) a truth -/
def eq1 : Option IntKind → Value → Value → Option Bool
  | some k, .int k1 a, .int k2 b => match kEq k k1, kEq k k2 with
    | true, true => some (decide (a = b))
    | _, _ => none
  | none, .bool a, .bool b => some (a == b)
  | _, _, _ => none
def eqK : List (Option IntKind) → List Value → List Value → Option Bool
  | [], [], [] => some true
  | k :: ks, x :: l, y :: r => match eq1 k x y with
    | some t => match eqK ks l r with
      | some t' => some (t && t')
      | none => none
    | none => none
  | _, _, _ => none
theorem eqK_split : ∀ (ks ls : List (Option IntKind)) (xs ys : List Value) (t : Bool), eqK (ks ++ ls) xs ys = some t → ∃ x1 x2 y1 y2 t1 t2, xs = x1 ++ x2 ∧ ys = y1 ++ y2 ∧ x1.length = ks.length ∧ y1.length = ks.length ∧ eqK ks x1 y1 = some t1 ∧ eqK ls x2 y2 = some t2 ∧ t = (t1 && t2)
  | [], ls, xs, ys, t, h => ⟨[], xs, [], ys, true, t, rfl, rfl, rfl, rfl, rfl, h, by simp⟩
  | k :: ks, ls, xs, ys, t, h => by
    cases xs with
    | nil => cases ys <;> simp [eqK] at h
    | cons x xs =>
      cases ys with
      | nil => simp [eqK] at h
      | cons y ys =>
        simp only [List.cons_append, eqK] at h
        split at h
        · rename_i t0 h0
          split at h
          · rename_i t' h'
            cases h
            obtain ⟨x1, x2, y1, y2, t1, t2, e1, e2, l1, l2, g1, g2, rfl⟩ := eqK_split ks ls xs ys t' h'
            refine ⟨x :: x1, x2, y :: y1, y2, t0 && t1, t2, by simp [e1], by simp [e2], by simp [l1], by simp [l2], ?_, g2, by simp [Bool.and_assoc]⟩
            simp only [eqK, h0, g1]
          · cases h
        · cases h
theorem eqK_one {k : Option IntKind} {xs ys : List Value} {t : Bool} (h : eqK [k] xs ys = some t) : ∃ x y, xs = [x] ∧ ys = [y] ∧ eq1 k x y = some t := by
  cases xs with
  | nil => cases ys <;> simp [eqK] at h
  | cons x xs =>
    cases ys with
    | nil => simp [eqK] at h
    | cons y ys =>
      simp only [eqK] at h
      split at h
      · rename_i t0 h0
        split at h
        · rename_i t' h'
          cases xs <;> cases ys <;> simp [eqK] at h'
          subst h'
          cases h
          exact ⟨x, y, rfl, rfl, by simpa using h0⟩
        · cases h
      · cases h

section
variable (P : Program)
def flatFs (φ : TypeId → Option (List (Option IntKind))) : Nat → List Field → Option (List (Option IntKind))
  | _, [] => some []
  | off, f :: fs => if f.name ≠ "_" ∧ f.offset = off then
      match φ f.type with
      | some ks => if (P.info? f.type).map (·.size) = some ks.length then
          match flatFs φ (off + ks.length) fs with
          | some ls => some (ks ++ ls)
          | none => none
        else none
      | none => none
    else none
/-- the cells' kinds of a type of numbers and truths -/
def flatN : Nat → TypeId → Option (List (Option IntKind))
  | 0, _ => none
  | d + 1, t => match P.underlying t with
    | some (.int k) => some [some k]
    | some .bool => some [none]
    | some (.struct fs) => if P.stoodInHeld t then none else flatFs P (flatN d) 0 fs.toList
    | _ => none
end
section
variable {P : Program}
/-- a type's value of its cells -/
def valT (P : Program) (t : TypeId) (xs : List Value) : Value := match P.underlying t with
  | some (.struct _) => .agg xs.toArray
  | _ => xs.headD undef

theorem flat_part {d : Nat} {t : TypeId} {ks : List (Option IntKind)} (h : flatN P d t = some ks) (hi : (P.info? t).map (·.size) = some ks.length) {pre x post : List Value} (hx : x.length = ks.length) (w : World) :
    (part t (pre ++ x ++ post).toArray pre.length).run P w = .ok (valT P t x) w := by
  cases d with
  | zero => simp [flatN] at h
  | succ d =>
    rw [Option.map_eq_some_iff] at hi
    obtain ⟨ii, hi1, hi2⟩ := hi
    have sc : ∀ {td : TypeDesc} {k : Option IntKind}, P.underlying t = some td → (match td with | .struct _ | .array .. => false | _ => true) = true → ks = [k] → (part t (pre ++ x ++ post).toArray pre.length).run P w = .ok (valT P t x) w := by
      intro td k ht hsc hk
      have hS : TScal P t := ⟨td, ht, hsc⟩
      subst hk
      obtain ⟨v, rfl⟩ : ∃ v, x = [v] := by
        cases x with
        | nil => simp at hx
        | cons v x => cases x with
          | nil => exact ⟨v, rfl⟩
          | cons => simp at hx
      have hv : valT P t [v] = v := by unfold valT; rw [ht]; cases td <;> first | rfl | simp at hsc
      rw [hv]
      simp [part, run_isAgg_scal hS]
    simp only [flatN] at h
    split at h
    · rename_i k ht; cases h; exact sc ht rfl rfl
    · rename_i ht; cases h; exact sc ht rfl rfl
    · rename_i fs ht
      have hA : TAgg P t ii.size := ⟨⟨_, ht, rfl⟩, ii, hi1, rfl⟩
      have hv : valT P t x = .agg x.toArray := by unfold valT; rw [ht]
      rw [hv]
      have hn : ii.size = x.length := by rw [hx]; exact hi2
      have hex : (pre ++ x ++ post).toArray.extract pre.length (pre.length + ii.size) = x.toArray := by
        rw [hn]
        apply Array.toList_inj.1
        simp [List.extract_eq_take_drop]
      simp [part, run_isAgg_agg hA, run_sizeOf hA.size]
      simpa using hex
    · cases h

theorem flat_equal : ∀ (d e : Nat) (t : TypeId) (ks : List (Option IntKind)), flatN P d t = some ks → d ≤ e → ∀ (xs ys : List Value) (b : Bool), eqK ks xs ys = some b → ∀ w : World, (Op.equalIn e t (valT P t xs) (valT P t ys)).run P w = .ok b w
  | 0, _, _, _, h, _ => by simp [flatN] at h
  | d + 1, 0, _, _, _, h => by omega
  | d + 1, e + 1, t, ks, h, hde => by
    intro xs ys b hb w
    have h' := h
    simp only [flatN] at h
    split at h
    · rename_i k ht
      cases h
      obtain ⟨x, y, rfl, rfl, h1⟩ := eqK_one hb
      have e1 : ∀ v, valT P t [v] = v := fun v => by unfold valT; rw [ht]; rfl
      rw [e1, e1]
      cases x <;> cases y <;> simp only [eq1, reduceCtorEq] at h1
      split at h1
      · rename_i k1 k2
        have := kEq_eq k1; have := kEq_eq k2; subst_vars; cases h1
        unfold Op.equalIn; simp [run_underlying ht, beq_dec]
      · cases h1
    · rename_i ht
      cases h
      obtain ⟨x, y, rfl, rfl, h1⟩ := eqK_one hb
      have e1 : ∀ v, valT P t [v] = v := fun v => by unfold valT; rw [ht]; rfl
      rw [e1, e1]
      cases x <;> cases y <;> simp only [eq1, reduceCtorEq, Option.some.injEq] at h1
      subst h1
      unfold Op.equalIn; simp [run_underlying ht]
    · rename_i fs ht
      split at h
      · cases h
      · rename_i hst
        have e1 : ∀ v, valT P t v = .agg v.toArray := fun v => by unfold valT; rw [ht]
        rw [e1, e1]
        have hft : P.underlying t = some (.struct (P.fieldsOf t)) := by unfold Program.fieldsOf; rw [ht]
        have hfs : P.fieldsOf t = fs := by unfold Program.fieldsOf; rw [ht]
        rw [run_equalIn_struct w e t xs.toArray ys.toArray hft (by simpa using hst), hfs]
        -- the fields, one behind the other
        have key : ∀ (l : List Field) (off : Nat) (ks : List (Option IntKind)) (xp yp x2 y2 : List Value) (b : Bool), flatFs P (flatN P d) off l = some ks → xp.length = off → yp.length = off → eqK ks x2 y2 = some b →
            (Op.eqFields e (xp ++ x2).toArray (yp ++ y2).toArray l).run P w = .ok b w := by
          intro l
          induction l with
          | nil =>
            intro off ks xp yp x2 y2 b hf _ _ hk
            simp only [flatFs, Option.some.injEq] at hf
            subst hf
            cases x2 <;> cases y2 <;> simp [eqK] at hk
            subst hk
            simp [Op.eqFields]
          | cons f l ih =>
            intro off ks xp yp x2 y2 b hf hxp hyp hk
            simp only [flatFs] at hf
            split at hf
            · rename_i hn
              split at hf
              · rename_i k1 hk1
                split at hf
                · rename_i hsz
                  split at hf
                  · rename_i l1 hl1
                    cases hf
                    obtain ⟨xa, xb, ya, yb, t1, t2, rfl, rfl, la, lb, g1, g2, rfl⟩ := eqK_split _ _ _ _ _ hk
                    have p1 := flat_part hk1 hsz (pre := xp) (post := xb) la w
                    have p2 := flat_part hk1 hsz (pre := yp) (post := yb) lb w
                    have q1 := flat_equal d e f.type k1 hk1 (by omega) xa ya t1 g1 w
                    have r1 := ih (off + k1.length) l1 (xp ++ xa) (yp ++ ya) xb yb t2 hl1 (by simp [hxp, la]) (by simp [hyp, lb]) g2
                    rw [List.append_assoc] at p1 p2
                    rw [List.append_assoc, List.append_assoc] at r1
                    rw [hxp] at p1
                    rw [hyp] at p2
                    have hne : f.name ≠ "_" := hn.1
                    have hoff : f.offset = off := hn.2
                    unfold Op.eqFields
                    rw [if_pos hne, hoff]
                    simp only [Sem.run_bind, p1, Result.andThen_ok, p2, q1]
                    cases t1
                    · simp
                    · simpa using r1
                  · cases hf
                · cases hf
              · cases hf
            · cases hf
        have := key fs.toList 0 ks [] [] xs ys b h rfl rfl hb
        simpa using this
    · cases h

/-- a type of numbers and truths -/
class TFlat (P : Program) (t : TypeId) (ks : outParam (List (Option IntKind))) : Prop where
  flat : flatN P 5 t = some ks
  guard : P.eqGuardType P.depth t = false
  str : (match P.underlying t with | some (.struct _) => true | _ => false) = true

variable {r : Option Nat} {ops : Array Oper} {K : Ko} {p p' : Plan} {n : Nat} {m m' : List (Nat × Value)} {ds : List Deferred} {H R : List SP}
theorem TFlat.val {t : TypeId} {ks : List (Option IntKind)} (h : TFlat P t ks) (xs : List Value) : valT P t xs = .agg xs.toArray := by
  have := h.str
  unfold valT
  split at this
  · rfl
  · cases this
/-- structs held against each other -/
theorem r_q {d k : Nat} {x y : Operand} {t t' : TypeId} {op : BinOp} {ks : List (Option IntKind)} {xs ys : Array Value} {b b' : Bool} [ht : TFlat P t ks] (q : Run P r ops K p' ⟨n, (d, .bool b') :: m, ds⟩ H)
    (h : stepM ops p n m = some (some d, .binOp op t x y t', k, p') := by rfl) (hx : Env.ev ⟨n, m, []⟩ x = some (.agg xs) := by rfl) (hy : Env.ev ⟨n, m, []⟩ y = some (.agg ys) := by rfl)
    (hb : eqK ks xs.toList ys.toList = some b := by rfl) (hop : (match op with | .eql => some b | .neq => some (!b) | _ => none) = some b' := by rfl) : Run P r ops K p ⟨n, m, ds⟩ H := by
  rw [ev_ds (ds := ds)] at hx hy
  refine pure_of h (fun o ho => qp_of (by simp [ho]) fun e w ha => ?_) q
  have h1 := flat_equal 5 10000 t ks ht.flat (by omega) xs.toList ys.toList b hb w
  rw [ht.val, ht.val] at h1
  simp only [Array.toArray_toList] at h1
  have hg : ∀ op, (eqGuard op t x y (.agg xs) (.agg ys)).run P w = .ok () w := fun op => run_eqGuard_agg w op t x y xs ys ht.guard
  cases op <;> simp only [reduceCtorEq, Option.some.injEq] at hop
  · subst hop
    simp [execOp, ho, ha.ev hx, ha.ev hy, hg, run_eql_struct, h1]
  · subst hop
    simp [execOp, ho, ha.ev hx, ha.ev hy, hg, run_neq_struct, h1]
end
end Go.Sl
