/- What is asked of the program's types; lists that are told by computing; blocks in a symbolic heap; the model's small programs. -/
import Derived.Test.YtnignhaamlmelaaGreatDoorSl3
import Derived.IntWalk
import Derived.Laws.StructEq
namespace Go.Sl
open Go

/-! ### What is asked of the program's types -/
class TInfo (P : Program) (t : TypeId) (z : outParam Value) (n b : outParam Nat) : Prop where
  out : ∃ i, P.info? t = some i ∧ i.zero = some z ∧ i.size = n ∧ i.bytes = b
/-- no struct, no array: one cell -/
class TScal (P : Program) (t : TypeId) : Prop where
  out : ∃ d, P.underlying t = some d ∧ (match d with | .struct _ | .array .. => false | _ => true) = true
class TAgg (P : Program) (t : TypeId) (n : outParam Nat) : Prop where
  agg : ∃ d, P.underlying t = some d ∧ (match d with | .struct _ | .array .. => true | _ => false) = true
  size : ∃ i, P.info? t = some i ∧ i.size = n
class TFld (P : Program) (t : TypeId) (f : Nat) (off : outParam Nat) (ft : outParam TypeId) (n : outParam Nat) : Prop where
  out : ∃ fs fd, P.underlying t = some (.struct fs) ∧ fs[f]? = some fd ∧ fd.offset = off ∧ fd.type = ft ∧ ∃ i, P.info? ft = some i ∧ i.size = n ∧ n ≠ 0
class TPtr (P : Program) (t : TypeId) : Prop where
  out : ∃ e, P.underlying t = some (.pointer e)
class TInt (P : Program) (t : TypeId) (k : outParam IntKind) : Prop where
  out : P.underlying t = some (.int k)
class TBool (P : Program) (t : TypeId) : Prop where
  out : P.underlying t = some .bool
class TSlice (P : Program) (t : TypeId) (el : outParam TypeId) (n b : outParam Nat) (z : outParam (List Value)) : Prop where
  out : P.underlying t = some (.slice el)
  info : ∃ i v, P.info? el = some i ∧ i.zero = some v ∧ v.cells = z.toArray ∧ i.size = n ∧ i.bytes = b
  len : z.length = n
class TMap (P : Program) (t : TypeId) (kt et : outParam TypeId) : Prop where
  out : P.underlying t = some (.map kt et)
class TArr (P : Program) (t : TypeId) (len : outParam Nat) (el : outParam TypeId) (n : outParam Nat) : Prop where
  out : P.underlying t = some (.array len el)
  info : ∃ i, P.info? el = some i ∧ i.size = n

class TStr (P : Program) (t : TypeId) (pl : outParam (List (Nat × Nat))) (z : outParam (List Value)) : Prop where
  out : ∃ fs, P.underlying t = some (.struct fs) ∧ fs.toList.map (fun f => (P.info? f.type).map fun i => (f.offset, i.size)) = pl.map some
  zero : ∃ i v, P.info? t = some i ∧ i.zero = some v ∧ v.cells = z.toArray
/-- a function with a body -/
class TFun (P : Program) (f : FuncId) : Prop where
  out : ∃ fn c, P.funcs[f]? = some fn ∧ (fn.name == "runtime.NumGoroutine") = false ∧ fn.body = some c

/-! ### The types, as a table -/
inductive TyK
  | other | bool | ptr
  | int (k : IntKind)
  | slice (el n b : Nat) (z : List Value)
  | map (kt et : TypeId)
  | arr (len el n : Nat)
  /-- the fields: where, of which type, how many cells -/
  | str (fs : List (Nat × TypeId × Nat))
structure TyI where
  k : TyK
  z : Value
  zc : List Value
  size : Nat
  bytes : Nat
def TyFlds (P : Program) (t : TypeId) : Nat → List (Nat × TypeId × Nat) → Prop
  | _, [] => True
  | f, (off, ft, n) :: l => TFld P t f off ft n ∧ TyFlds P t (f + 1) l
def TyI.Sound (P : Program) (t : TypeId) (i : TyI) : Prop :=
  TInfo P t i.z i.size i.bytes ∧ i.z.cells = i.zc.toArray ∧ match i.k with
  | .other => TScal P t
  | .bool => TBool P t ∧ TScal P t
  | .ptr => TPtr P t ∧ TScal P t
  | .int k => TInt P t k ∧ TScal P t
  | .slice el n b z => TSlice P t el n b z ∧ TScal P t
  | .map kt et => TMap P t kt et ∧ TScal P t
  | .arr len el n => TArr P t len el n ∧ TAgg P t i.size
  | .str fs => TStr P t (fs.map fun (off, _, n) => (off, n)) i.zc ∧ TAgg P t i.size ∧ TyFlds P t 0 fs
def TyRow (P : Program) : Nat → List (Option TyI) → Prop
  | _, [] => True
  | t, none :: l => TyRow P (t + 1) l
  | t, some i :: l => i.Sound P t ∧ TyRow P (t + 1) l
def TyTab (P : Program) : Nat → List (List (Option TyI)) → Prop
  | _, [] => True
  | b, r :: l => TyRow P (16 * b) r ∧ TyTab P (b + 1) l
/-- the table's entry -/
def tget (T : List (List (Option TyI))) (t : TypeId) : Option TyI := match lget T (t / 16) with
  | none => none
  | some r => match lget r (t % 16) with
    | some (some i) => some i
    | _ => none
class Ty (P : Program) where
  tab : List (List (Option TyI))
  ok : TyTab P 0 tab
theorem tyRow_get {P : Program} : ∀ (r : List (Option TyI)) (t j : Nat) (i : TyI), TyRow P t r → r[j]? = some (some i) → i.Sound P (t + j)
  | [], _, _, _, _, h => by simp at h
  | none :: r, t, 0, i, h, e => by simp at e
  | none :: r, t, j + 1, i, h, e => by
    have := tyRow_get r (t + 1) j i h (by simpa using e)
    rwa [show t + 1 + j = t + (j + 1) by omega] at this
  | some x :: r, t, 0, i, h, e => by simp at e; subst e; exact h.1
  | some x :: r, t, j + 1, i, h, e => by
    have := tyRow_get r (t + 1) j i h.2 (by simpa using e)
    rwa [show t + 1 + j = t + (j + 1) by omega] at this
theorem tyTab_get {P : Program} : ∀ (T : List (List (Option TyI))) (b j : Nat) (r : List (Option TyI)), TyTab P b T → T[j]? = some r → TyRow P (16 * (b + j)) r
  | [], _, _, _, _, h => by simp at h
  | x :: T, b, 0, r, h, e => by simp at e; subst e; exact h.1
  | x :: T, b, j + 1, r, h, e => by
    have := tyTab_get T (b + 1) j r h.2 (by simpa using e)
    rwa [show b + 1 + j = b + (j + 1) by omega] at this
theorem ty_get {P : Program} [T : Ty P] {t : TypeId} {i : TyI} (h : tget T.tab t = some i) : i.Sound P t := by
  unfold tget at h
  split at h
  · cases h
  · rename_i r hr
    split at h
    · rename_i i' hi
      cases h
      rw [lget_eq] at hr hi
      have := tyRow_get r _ _ _ (tyTab_get T.tab 0 _ r T.ok hr) hi
      have e : 16 * (0 + t / 16) + t % 16 = t := by rw [Nat.zero_add]; exact Nat.div_add_mod t 16
      rwa [e] at this
    · cases h

/-! ### Lists, told by computing -/
/-- n from o on -/
def takeC : List Value → Nat → Option (List Value)
  | _, 0 => some []
  | [], _ + 1 => none
  | v :: vs, n + 1 => match takeC vs n with
    | some us => some (v :: us)
    | none => none
def subC : List Value → Nat → Nat → Option (List Value)
  | vs, 0, n => takeC vs n
  | [], _ + 1, _ => none
  | _ :: vs, o + 1, n => subC vs o n
def setC : List Value → Nat → Value → Option (List Value)
  | [], _, _ => none
  | _ :: vs, 0, v => some (v :: vs)
  | u :: vs, o + 1, v => match setC vs o v with
    | some us => some (u :: us)
    | none => none
def put0 : List Value → List Value → Option (List Value)
  | vs, [] => some vs
  | [], _ :: _ => none
  | _ :: vs, x :: xs => match put0 vs xs with
    | some us => some (x :: us)
    | none => none
def putC : List Value → Nat → List Value → Option (List Value)
  | vs, 0, xs => put0 vs xs
  | [], _ + 1, _ => none
  | u :: vs, o + 1, xs => match putC vs o xs with
    | some us => some (u :: us)
    | none => none
theorem takeC_spec : ∀ (cs : List Value) (n : Nat) (r : List Value), takeC cs n = some r → ∃ post, cs = r ++ post ∧ r.length = n
  | cs, 0, r, h => by simp [takeC] at h; subst h; exact ⟨cs, rfl, rfl⟩
  | [], n + 1, r, h => by simp [takeC] at h
  | v :: cs, n + 1, r, h => by
    simp only [takeC] at h
    split at h
    · rename_i us hus
      cases h
      obtain ⟨post, e, l⟩ := takeC_spec cs n us hus
      exact ⟨post, by simp [e], by simp [l]⟩
    · cases h
theorem subC_spec : ∀ (cs : List Value) (o n : Nat) (r : List Value), subC cs o n = some r → ∃ pre post, cs = pre ++ r ++ post ∧ pre.length = o ∧ r.length = n
  | cs, 0, n, r, h => by
    obtain ⟨post, e, l⟩ := takeC_spec cs n r (by cases cs <;> simpa [subC] using h)
    exact ⟨[], post, by simp [e], rfl, l⟩
  | [], o + 1, n, r, h => by simp [subC] at h
  | v :: cs, o + 1, n, r, h => by
    obtain ⟨pre, post, e, l1, l2⟩ := subC_spec cs o n r (by simpa [subC] using h)
    exact ⟨v :: pre, post, by simp [e], by simp [l1], l2⟩
theorem setC_spec : ∀ (cs : List Value) (o : Nat) (v : Value) (r : List Value), setC cs o v = some r → cs.set o v = r ∧ o < cs.length
  | [], o, v, r, h => by simp [setC] at h
  | u :: cs, 0, v, r, h => by simp [setC] at h; simp [h]
  | u :: cs, o + 1, v, r, h => by
    simp only [setC] at h
    split at h
    · rename_i us hus
      cases h
      obtain ⟨e, l⟩ := setC_spec cs o v us hus
      exact ⟨by simp [e], by simpa using l⟩
    · cases h
theorem put0_spec : ∀ (cs xs r : List Value), put0 cs xs = some r → ∃ old post, cs = old ++ post ∧ r = xs ++ post ∧ old.length = xs.length
  | cs, [], r, h => by simp [put0] at h; subst h; exact ⟨[], cs, rfl, rfl, rfl⟩
  | [], x :: xs, r, h => by simp [put0] at h
  | u :: cs, x :: xs, r, h => by
    simp only [put0] at h
    split at h
    · rename_i us hus
      cases h
      obtain ⟨old, post, e1, e2, l⟩ := put0_spec cs xs us hus
      exact ⟨u :: old, post, by simp [e1], by simp [e2], by simp [l]⟩
    · cases h
theorem putC_spec : ∀ (cs : List Value) (o : Nat) (xs r : List Value), putC cs o xs = some r → ∃ pre old post, cs = pre ++ old ++ post ∧ r = pre ++ xs ++ post ∧ pre.length = o ∧ old.length = xs.length
  | cs, 0, xs, r, h => by
    obtain ⟨old, post, e1, e2, l⟩ := put0_spec cs xs r (by cases cs <;> simpa [putC] using h)
    exact ⟨[], old, post, by simp [e1], by simp [e2], rfl, l⟩
  | [], o + 1, xs, r, h => by simp [putC] at h
  | u :: cs, o + 1, xs, r, h => by
    simp only [putC] at h
    split at h
    · rename_i us hus
      cases h
      obtain ⟨pre, old, post, e1, e2, l1, l2⟩ := putC_spec cs o xs us hus
      exact ⟨u :: pre, old, post, by simp [e1], by simp [e2], by simp [l1], l2⟩
    · cases h
/-- a value's cells -/
def cellsC : Value → List Value
  | .agg a => a.toList
  | .tuple a => a.toList
  | v => [v]
theorem cellsC_spec (v : Value) (h : ∀ a, v ≠ .tuple a) : v.cells = (cellsC v).toArray := by
  cases v <;> simp_all [Value.cells, cellsC]
/-- the parts, put where they belong -/
def fillC (fs : List (Nat × TypeId × Nat)) : List Value → List (Nat × Value) → Option (List Value)
  | cs, [] => some cs
  | _, (_, .tuple _) :: _ => none
  | cs, (j, v) :: rest => match lget fs j with
    | some (off, _, n) => match Nat.beq (cellsC v).length n with
      | true => match putC cs off (cellsC v) with
        | some cs' => fillC fs cs' rest
        | none => none
      | false => none
    | none => none
theorem fold_put : ∀ (vs pre old post : List Value) (off j : Nat), old.length = vs.length → pre.length = off + j →
    (vs.zipIdx j).foldl (fun (cs : Array Value) (x : Value × Nat) => cs.setIfInBounds (off + x.2) x.1) ((pre ++ old ++ post).toArray) = (pre ++ vs ++ post).toArray
  | [], pre, old, post, off, j, h, _ => by
    obtain rfl := List.length_eq_zero_iff.1 h
    simp
  | v :: vs, pre, old, post, off, j, h, hp => by
    cases old with
    | nil => simp at h
    | cons o old =>
      simp only [List.length_cons, Nat.add_right_cancel_iff] at h
      simp only [List.zipIdx_cons, List.foldl_cons]
      have e : (pre ++ o :: old ++ post).toArray.setIfInBounds (off + j) v = ((pre ++ [v]) ++ old ++ post).toArray := by
        simp [hp]
      rw [e, fold_put vs (pre ++ [v]) old post off (j + 1) h (by simp; omega)]
      simp
theorem fillC_spec (fs : List (Nat × TypeId × Nat)) : ∀ (parts : List (Nat × Value)) (cs r : List Value), fillC fs cs parts = some r →
    Instr.fill ((fs.map fun (off, _, n) => (off, n)).toArray[·]?) cs.toArray parts = some r.toArray
  | [], cs, r, h => by simp [fillC] at h; subst h; rfl
  | (j, v) :: rest, cs, r, h => by
    have h' : (∀ a, v ≠ .tuple a) ∧ ∃ off ft n cs', lget fs j = some (off, ft, n) ∧ (cellsC v).length = n ∧ putC cs off (cellsC v) = some cs' ∧ fillC fs cs' rest = some r := by
      unfold fillC at h
      split at h
      · rename_i e; cases e
      · cases h
      · rename_i j' v' rest' hnt e
        cases e
        split at h
        · rename_i off ft n hl
          split at h
          · rename_i hb
            split at h
            · rename_i cs' hp
              exact ⟨fun a e => hnt a (by rw [e]), off, ft, n, cs', hl, Nat.eq_of_beq_eq_true hb, hp, h⟩
            · cases h
          · cases h
        · cases h
    obtain ⟨hnt, off, ft, n, cs', hl, hlen, hp, hr⟩ := h'
    rw [lget_eq] at hl
    obtain ⟨pre, old, post, e1, e2, e3, e4⟩ := putC_spec _ _ _ _ hp
    unfold Instr.fill
    have hq : ((fs.map fun (off, _, n) => (off, n)).toArray[j]? : Option (Nat × Nat)) = some (off, n) := by simp [hl]
    simp only [hq]
    rw [cellsC_spec v hnt]
    rw [if_neg (by simp [hlen, e1]; omega)]
    have := fold_put (cellsC v) pre old post off 0 e4 (by omega)
    rw [← Array.foldl_toList]
    simp only [Array.toList_zipIdx]
    rw [e1, this, ← e2]
    exact fillC_spec fs rest cs' r hr

theorem beq_dec (a b : Int) : (a == b) = decide (a = b) := by rw [Bool.eq_iff_iff]; simp

/-! ### A block in a symbolic heap -/
class Tk (H : List SP) (b : Nat) (cs : outParam (List Value)) (t : outParam TypeId) (R : outParam (List SP)) : Prop where
  out : Sel H (cl b cs t) R
instance (priority := low) {A : SP} {H R : List SP} {b : Nat} {cs : List Value} {t : TypeId} [h : Tk H b cs t R] : Tk (A :: H) b cs t (A :: R) := ⟨.there h.out⟩
instance {H : List SP} {b : Nat} {cs : List Value} {t : TypeId} : Tk (cl b cs t :: H) b cs t H := ⟨.here _ _⟩

theorem Tk.get {H R : List SP} {b : Nat} {cs : List Value} {t : TypeId} (h : Tk H b cs t R) {w : World} (s : Sat H (heapOf w)) : w.heap[b]? = some (.cells cs.toArray t (0, 0)) :=
  Sat.pt_get (h.out.ent _ s)

theorem cell_of {w : World} {b i : Nat} {cs : List Value} {t : TypeId} (h : w.heap[b]? = some (.cells cs.toArray t (0, 0))) : w.cell? ⟨b, i, none⟩ = cs[i]? := by
  simp [World.cell?, h]
theorem frozen_of {w : World} {b i : Nat} {cs : List Value} {t : TypeId} (h : w.heap[b]? = some (.cells cs.toArray t (0, 0))) : w.frozen? ⟨b, i, none⟩ = false := by
  simp [World.frozen?, h]

theorem heapOf_setCell {w : World} {b i : Nat} {v : Value} {cs : List Value} {t : TypeId} (h : w.heap[b]? = some (.cells cs.toArray t (0, 0))) :
    heapOf (w.setCell ⟨b, i, none⟩ v) b = some (.cells (cs.set i v).toArray t (0, 0)) ∧ ∀ x, x ≠ b → heapOf (w.setCell ⟨b, i, none⟩ v) x = heapOf w x := by
  constructor
  · simp [heapOf, World.setCell, Array.getElem?_modify, h]
  · intro x hx
    simp [heapOf, World.setCell, Array.getElem?_modify, Ne.symm hx]

theorem sat_setCell {w : World} {b i : Nat} {v : Value} {cs : List Value} {t : TypeId} {R : List SP} (s : Sat (cl b cs t :: R) (heapOf w)) :
    Sat (cl b (cs.set i v) t :: R) (heapOf (w.setCell ⟨b, i, none⟩ v)) := by
  have h := heapOf_setCell (w := w) (i := i) (v := v) (Sat.pt_get s)
  exact Sat.pt_set s h.1 h.2

theorem heapOf_alloc (w : World) (o : Obj) : heapOf w w.heap.size = none ∧ heapOf (w.alloc o) w.heap.size = some o ∧ ∀ x, x ≠ w.heap.size → heapOf (w.alloc o) x = heapOf w x := by
  refine ⟨by simp [heapOf], by simp [heapOf, World.alloc, - World.alloc_eq], fun x hx => ?_⟩
  simp [heapOf, World.alloc, Array.getElem?_push, hx, - World.alloc_eq]
theorem sat_alloc {w : World} {o : Obj} {R : List SP} (s : Sat R (heapOf w)) : Sat (pt w.heap.size o :: R) (heapOf (w.alloc o)) :=
  let ⟨h1, h2, h3⟩ := heapOf_alloc w o
  Sat.pt_new s h1 h2 h3

section
variable {P : Program} {r : Option Nat}
/-! ### Runs of the model's small programs -/
theorem run_underlying {t : TypeId} {x : TypeDesc} (h : P.underlying t = some x) (w : World) : (underlying t).run P w = .ok x w := by simp [underlying, h]
theorem run_typeInfo {t : TypeId} {x : TypeInfo} (h : P.info? t = some x) (w : World) : (typeInfo t).run P w = .ok x w := by simp [typeInfo, h]
theorem run_isAgg_scal {t : TypeId} (h : TScal P t) (w : World) : (isAgg t).run P w = .ok false w := by
  obtain ⟨x, h1, h2⟩ := h.out
  unfold isAgg
  simp only [Sem.run_bind, run_underlying h1, Result.andThen_ok]
  cases x <;> simp_all
theorem run_isAgg_agg {t : TypeId} {s : Nat} (h : TAgg P t s) (w : World) : (isAgg t).run P w = .ok true w := by
  obtain ⟨x, h1, h2⟩ := h.agg
  unfold isAgg
  simp only [Sem.run_bind, run_underlying h1, Result.andThen_ok]
  cases x <;> simp_all
theorem run_sizeOf {t : TypeId} {s : Nat} (h : ∃ i, P.info? t = some i ∧ i.size = s) (w : World) : (sizeOf t).run P w = .ok s w := by
  obtain ⟨x, h1, h2⟩ := h
  simp [sizeOf, run_typeInfo h1, h2]
theorem run_zeroValue {t : TypeId} {z : Value} {s b : Nat} (h : TInfo P t z s b) (w : World) : (zeroValue t).run P w = .ok z w := by
  obtain ⟨x, h1, h2, _⟩ := h.out
  simp [zeroValue, run_typeInfo h1, h2]

theorem add_zero' (a : Addr) : a.add 0 = a := rfl
theorem add_mk (b o j : Nat) : (⟨b, o, none⟩ : Addr).add j = ⟨b, o + j, none⟩ := by
  unfold Addr.add; split
  · rename_i h; subst h; rfl
  · rfl

theorem run_loadCellsFrom {w : World} {b o : Nat} {cs : List Value} {t : TypeId} (hb : w.heap[b]? = some (.cells cs.toArray t (0, 0))) :
    ∀ (vs : List Value) (j : Nat) (acc : Array Value), (∀ q, q < vs.length → cs[o + j + q]? = vs[q]?) → (loadCellsFrom ⟨b, o, none⟩ j vs.length acc).run P w = .ok (acc ++ vs.toArray) w
  | [], j, acc, _ => by simp [loadCellsFrom]
  | v :: vs, j, acc, h => by
    have h0 : w.cell? ⟨b, o + j, none⟩ = some v := by rw [cell_of hb]; have := h 0 (by simp); simpa using this
    simp only [List.length_cons, loadCellsFrom, Sem.run_bind, run_load, add_mk, h0, Result.andThen_ok]
    rw [run_loadCellsFrom hb vs (j + 1) (acc.push v) (fun q hq => by
      have := h (q + 1) (by simp; omega)
      simp only [List.getElem?_cons_succ] at this
      rw [← this]; congr 1; omega)]
    simp

theorem run_loadCells {w : World} {b o : Nat} {cs vs : List Value} {t : TypeId} {s : Nat} (hb : w.heap[b]? = some (.cells cs.toArray t (0, 0)))
    (h : ∃ pre post, cs = pre ++ vs ++ post ∧ pre.length = o ∧ vs.length = s) : (loadCells ⟨b, o, none⟩ s).run P w = .ok vs.toArray w := by
  obtain ⟨pre, post, e, h1, h2⟩ := h
  unfold loadCells
  rw [← h2, run_loadCellsFrom hb vs 0 #[] (fun q hq => by
    subst e; subst h1
    simp [List.getElem?_append, hq])]
  simp
def oneCell : Value → Bool
  | .agg _ | .tuple _ => false
  | _ => true
theorem run_store1 {w : World} {a : Addr} {v u : Value} (hv : oneCell v = true) (hc : w.cell? a = some u) (hf : w.frozen? a = false) :
    (store a v).run P w = .ok () (w.setCell a v) := by
  cases v <;> simp_all [store, Sem.run, oneCell]

theorem run_storeCells {b o : Nat} {t : TypeId} : ∀ (vs : List Value) (w : World) (cs : List Value) (j : Nat), (∀ v ∈ vs, oneCell v = true) →
    w.heap[b]? = some (.cells cs.toArray t (0, 0)) → o + j + vs.length ≤ cs.length →
    ∃ w' cs', (storeCells ⟨b, o, none⟩ vs j).run P w = .ok () w' ∧ cs' = cs.take (o + j) ++ vs ++ cs.drop (o + j + vs.length) ∧ heapOf w' b = some (.cells cs'.toArray t (0, 0)) ∧ (∀ x, x ≠ b → heapOf w' x = heapOf w x) ∧ (heapOf w').x = (heapOf w).x
  | [], w, cs, j, _, hb, _ => ⟨w, cs, by simp [storeCells], by simp, hb, fun _ _ => rfl, rfl⟩
  | v :: vs, w, cs, j, hv, hb, hlen => by
    simp only [List.length_cons] at hlen
    have hlt : o + j < cs.length := by omega
    have hc : w.cell? ⟨b, o + j, none⟩ = some cs[o + j] := by rw [cell_of hb]; simp [hlt]
    have hset := heapOf_setCell (w := w) (i := o + j) (v := v) hb
    obtain ⟨w', cs', h1, h2, h3, h4, h5⟩ := run_storeCells (o := o) vs (w.setCell ⟨b, o + j, none⟩ v) (cs.set (o + j) v) (j + 1) (fun u hu => hv u (by simp [hu])) hset.1 (by simp; omega)
    refine ⟨w', cs', ?_, ?_, h3, fun x hx => (h4 x hx).trans (hset.2 x hx), h5⟩
    · unfold storeCells
      simp only [Sem.run_bind, add_mk, run_store1 (hv v (by simp)) hc (frozen_of hb), Result.andThen_ok]
      exact h1
    · rw [h2]
      have e1 : (cs.set (o + j) v).take (o + (j + 1)) = cs.take (o + j) ++ [v] := by
        have hl : (cs.take (o + j)).length = o + j := by simp; omega
        rw [List.set_eq_take_append_cons_drop, if_pos hlt, List.take_append, hl, show o + (j + 1) - (o + j) = 1 by omega]
        rw [List.take_of_length_le (by omega)]
        simp
      have e2 : (cs.set (o + j) v).drop (o + (j + 1) + vs.length) = cs.drop (o + j + (vs.length + 1)) := by
        rw [List.drop_set, if_pos (by omega), show o + (j + 1) + vs.length = o + j + (vs.length + 1) by omega]
      rw [e1, e2]; simp

theorem run_places {P : Program} (w : World) : ∀ (fs : List Field) (pl : List (Nat × Nat)), fs.map (fun f => (P.info? f.type).map fun i => (f.offset, i.size)) = pl.map some →
    (fs.mapM fun (f : Field) => (do pure (f.offset, ← sizeOf f.type) : Sem (Nat × Nat))).run P w = .ok pl w
  | [], pl, h => by
    cases pl with
    | nil => simp
    | cons x pl => simp at h
  | f :: fs, pl, h => by
    cases pl with
    | nil => simp at h
    | cons x pl =>
      simp only [List.map_cons, List.cons.injEq] at h
      obtain ⟨h1, h2⟩ := h
      rw [Option.map_eq_some_iff] at h1
      obtain ⟨ii, h3, h4⟩ := h1
      have h5 := run_places w fs pl h2
      simp only [List.mapM_cons, Sem.run_bind, run_sizeOf ⟨ii, h3, rfl⟩, Result.andThen_ok, Sem.run_pure, h4, h5]
theorem run_placesA {P : Program} (w : World) {fs : Array Field} {pl : List (Nat × Nat)} (h : fs.toList.map (fun f => (P.info? f.type).map fun i => (f.offset, i.size)) = pl.map some) :
    (fs.mapM fun (f : Field) => (do pure (f.offset, ← sizeOf f.type) : Sem (Nat × Nat))).run P w = .ok pl.toArray w := by
  have := run_places w fs.toList pl h
  rw [← Array.toArray_toList (xs := fs), List.mapM_toArray]
  simp only [Sem.run_map, this, Result.andThen_ok]

/-! ### The facts on types, as closed equations -/
theorem TInfo.of {P : Program} {t : TypeId} {z : Value} {n b : Nat} (h : (P.info? t).map (fun i => (i.zero, i.size, i.bytes)) = some (some z, n, b)) : TInfo P t z n b := by
  rw [Option.map_eq_some_iff] at h
  obtain ⟨i, h1, h2⟩ := h
  simp only [Prod.mk.injEq] at h2
  exact ⟨i, h1, h2.1, h2.2.1, h2.2.2⟩
theorem TScal.of {P : Program} {t : TypeId} (h : (P.underlying t).map (fun x => match x with | .struct _ | .array .. => false | _ => true) = some true) : TScal P t := by
  rw [Option.map_eq_some_iff] at h
  obtain ⟨i, h1, h2⟩ := h
  exact ⟨i, h1, h2⟩
theorem TAgg.of {P : Program} {t : TypeId} {n : Nat} (h : (P.underlying t).map (fun x => match x with | .struct _ | .array .. => true | _ => false) = some true) (k : (P.info? t).map (·.size) = some n) : TAgg P t n := by
  rw [Option.map_eq_some_iff] at h k
  obtain ⟨i, h1, h2⟩ := h
  obtain ⟨j, h3, h4⟩ := k
  exact ⟨⟨i, h1, h2⟩, ⟨j, h3, h4⟩⟩
theorem TFld.of {P : Program} {t : TypeId} {f off : Nat} {ft : TypeId} {n : Nat} (h : (P.underlying t).bind (fun x => match x with | .struct fs => (fs[f]?).map fun fd => (fd.offset, fd.type) | _ => none) = some (off, ft))
    (k : (P.info? ft).map (·.size) = some n) (hn : Nat.beq n 0 = false) : TFld P t f off ft n := by
  rw [Option.bind_eq_some_iff] at h
  obtain ⟨x, h1, h2⟩ := h
  rw [Option.map_eq_some_iff] at k
  obtain ⟨j, h3, h4⟩ := k
  cases x <;> simp only [reduceCtorEq] at h2
  rename_i fs
  rw [Option.map_eq_some_iff] at h2
  obtain ⟨fd, h5, h6⟩ := h2
  simp only [Prod.mk.injEq] at h6
  exact ⟨fs, fd, h1, h5, h6.1, h6.2, j, h3, h4, fun e => by subst e; simp at hn⟩
theorem TStr.of {P : Program} {t : TypeId} {pl : List (Nat × Nat)} {z : List Value} (h : (P.underlying t).map (fun x => match x with | .struct fs => fs.toList.map (fun f => (P.info? f.type).map fun i => (f.offset, i.size)) | _ => [none]) = some (pl.map some))
    (k : (P.info? t).map (fun i => i.zero.map (·.cells)) = some (some z.toArray)) : TStr P t pl z := by
  rw [Option.map_eq_some_iff] at h k
  obtain ⟨x, h1, h2⟩ := h
  obtain ⟨i, h3, h4⟩ := k
  rw [Option.map_eq_some_iff] at h4
  obtain ⟨v, h5, h6⟩ := h4
  refine ⟨?_, i, v, h3, h5, h6⟩
  cases x with
  | struct fs => exact ⟨fs, h1, h2⟩
  | _ => cases pl <;> simp at h2
theorem TSlice.of {P : Program} {t el : TypeId} {n b : Nat} {z : List Value} (h : P.underlying t = some (.slice el)) (k : (P.info? el).map (fun i => (i.zero.map (·.cells), i.size, i.bytes)) = some (some z.toArray, n, b)) (hl : Nat.beq z.length n = true) : TSlice P t el n b z := by
  rw [Option.map_eq_some_iff] at k
  obtain ⟨i, h1, h2⟩ := k
  simp only [Prod.mk.injEq, Option.map_eq_some_iff] at h2
  obtain ⟨⟨v, h3, h4⟩, h5, h6⟩ := h2
  exact ⟨h, ⟨i, v, h1, h3, h4, h5, h6⟩, Nat.eq_of_beq_eq_true hl⟩
theorem TArr.of {P : Program} {t el : TypeId} {len n : Nat} (h : P.underlying t = some (.array len el)) (k : (P.info? el).map (·.size) = some n) : TArr P t len el n := by
  rw [Option.map_eq_some_iff] at k
  obtain ⟨i, h1, h2⟩ := k
  exact ⟨h, i, h1, h2⟩
theorem TFun.of {P : Program} {f : FuncId} {fn : Func} {c : Code} (h : P.funcs[f]? = some fn) (hn : (fn.name == "runtime.NumGoroutine") = false) (hb : fn.body = some c) : TFun P f := ⟨fn, c, h, hn, hb⟩

/-- operands, one behind the other -/
def evs (e : Env) : List Operand → Option (List Value)
  | [] => some []
  | x :: xs => match e.ev x with
    | none => none
    | some v => match evs e xs with
      | none => none
      | some vs => some (v :: vs)
theorem Agree.evs {e : Env} {a : Act} (h : Agree e a) : ∀ {xs : List Operand} {vs : List Value}, evs e xs = some vs → xs.map a.eval = vs
  | [], vs, hx => by simp [Sl.evs] at hx; simp [hx]
  | x :: xs, vs, hx => by
    unfold Sl.evs at hx
    split at hx
    · cases hx
    · rename_i v hv
      split at hx
      · cases hx
      · rename_i us hus
        cases hx
        simp [h.ev hv, h.evs hus]
theorem Agree.evsA {e : Env} {a : Act} (h : Agree e a) {xs : Array Operand} {vs : List Value} (hx : Sl.evs e xs.toList = some vs) : xs.map a.eval = vs.toArray :=
  Array.toList_inj.1 (by rw [Array.toList_map]; exact h.evs hx)
def evps (e : Env) : List (Nat × Operand) → Option (List (Nat × Value))
  | [] => some []
  | (j, x) :: xs => match e.ev x with
    | none => none
    | some v => match evps e xs with
      | none => none
      | some vs => some ((j, v) :: vs)
theorem Agree.evps {e : Env} {a : Act} (h : Agree e a) : ∀ {xs : List (Nat × Operand)} {vs : List (Nat × Value)}, evps e xs = some vs → xs.map (fun (j, x) => (j, a.eval x)) = vs
  | [], vs, hx => by simp [Sl.evps] at hx; simp [hx]
  | (j, x) :: xs, vs, hx => by
    unfold Sl.evps at hx
    split at hx
    · cases hx
    · rename_i v hv
      split at hx
      · cases hx
      · rename_i us hus
        cases hx
        simp [h.ev hv, h.evps hus]

theorem run_callFunc {P : Program} {f : FuncId} (h : TFun P f) (args : Array Value) (w : World) : (callFunc f args).run P w = .ok (.enter f args) w := by
  obtain ⟨fn, c, h1, h2, h3⟩ := h.out
  unfold callFunc
  simp [h1, h3, Sem.run_bind]
  simp at h2
  simp [h2]

end
end Go.Sl
