/- Regions in the small separation logic: a region in the text's order, and a region that draws its order: quiet operations are taken as early as may be, operations that act one by one. -/
import Derived.Test.YtnignhaamlmelaaGreatDoorSl1
namespace Go.Sl
open Go

/-! ### What one operation does: it yields a value (no panic, no deferred call) -/
def op1U (P : Program) (N : Value → World → Prop) : Result Next → Prop
  | .ok (.value v) w' => N v w'
  | .ok .skip w' => N undef w'
  | .ok (.enter f args) w' => CallsIn (Fw none) 0 P f args w' fun e w'' => ∃ v, e = .returned v ∧ N v w''
  | .ok (.round l f tmps assign body) w' => RoundIn (Fw none) 0 P l f tmps assign body w' fun e w'' => ∃ v, e = .returned v ∧ N v w''
  | _ => False

def op1 (P : Program) (r : Option Nat) (o : Oper) (a : Act) (w : World) (N : Value → World → Prop) : Prop :=
  op1U P N ((o.semAt r a.eval).run P w)

theorem op1U.mono {P : Program} {N N' : Value → World → Prop} (k : ∀ v w, N v w → N' v w) {x : Result Next} (h : op1U P N x) : op1U P N' x := by
  cases x with
  | ok n w =>
    cases n <;> simp only [op1U] at h ⊢ <;> first
      | exact k _ _ h
      | exact h.mono fun e w' ⟨v, q1, q2⟩ => ⟨v, q1, k _ _ q2⟩
  | halt x w => simp only [op1U] at h
theorem op1.mono {P : Program} {r : Option Nat} {o : Oper} {a : Act} {w : World} {N N' : Value → World → Prop} (h : op1 P r o a w N) (k : ∀ v w, N v w → N' v w) :
    op1 P r o a w N' := op1U.mono k h

theorem op1.wpIn {P : Program} {r : Option Nat} {o : Oper} {a : Act} {w : World} {N : Value → World → Prop} {K : Kt} {X : Act → World → Prop}
    (h : op1 P r o a w N) (k : ∀ v w', N v w' → X (a.put o.dst v) w') : o.wpIn (Fw r) 0 P a w X K := by
  refine ⟨fun _ _ => trivial, ?_⟩
  unfold op1 at h
  rw [show (Fw r).round = r from rfl]
  generalize (o.semAt r a.eval).run P w = x at *
  cases x with
  | ok n w =>
    cases n <;> simp only [op1U, Oper.uponIn] at h ⊢ <;> first
      | exact k _ _ h
      | exact ⟨fun e => by simp at e, h.mono fun e w' ⟨v, q1, q2⟩ => by subst q1; exact k _ _ q2⟩
  | halt x w => simp only [op1U] at h

section
variable {P : Program} {r : Option Nat} {ops : Array Oper} {K : Kt} {e : Env} {H : List SP}

/-- Is an operation wanted, as far as is known? -/
def wants (ops : Array Oper) (e : Env) (o : Oper) : Option Bool :=
  match o.guard with
  | none => some true
  | some (j, b) =>
    match (ops[j]?).bind (·.dst) with
    | none => none
    | some t =>
      match lk e.m t with
      | some (.bool c) => some (c == b)
      | _ => none

theorem wants_spec {o : Oper} {b : Bool} {a : Act} (ha : Agree e a) (h : wants ops e o = some b) : Region.wanted o (yielded ops a.tmps) = b := by
  unfold wants at h
  unfold Region.wanted
  cases hg : o.guard with
  | none => rw [hg] at h; simpa using h
  | some p =>
    obtain ⟨j, c⟩ := p
    rw [hg] at h
    simp only at h ⊢
    unfold yielded
    cases ht : (ops[j]?).bind (·.dst) with
    | none => rw [ht] at h; simp at h
    | some t =>
      rw [ht] at h
      simp only at h
      cases hl : lk e.m t with
      | none => rw [hl] at h; simp at h
      | some v =>
        rw [hl] at h
        cases v <;> simp at h
        rename_i d
        simp [ha.val t _ hl, ← h]

/-- A quiet operation: it yields v, and the world is as it was. -/
def Qt (P : Program) (r : Option Nat) (o : Oper) (e : Env) (H : List SP) (v : Value) : Prop :=
  ∀ a w, Agree e a → Sat H (heapOf w) → (o.semAt r a.eval).run P w = .ok (.value v) w

/-- A pure one: in whatever world. -/
def Qp (P : Program) (r : Option Nat) (o : Oper) (e : Env) (v : Value) : Prop :=
  ∀ a w, Agree e a → (o.semAt r a.eval).run P w = .ok (.value v) w
theorem Qp.qt {o : Oper} {v : Value} (h : Qp P r o e v) : Qt P r o e H v := fun a w ha _ => h a w ha

/-- An operation that acts: what is known behind it. -/
def Ef (P : Program) (r : Option Nat) (o : Oper) (e : Env) (H : List SP) (N : Value → List SP → Prop) : Prop :=
  ∀ a w, Agree e a → Sat H (heapOf w) → op1 P r o a w fun v w' => ∃ H', N v H' ∧ Sat H' (heapOf w')
theorem Ef.mono {o : Oper} {N N' : Value → List SP → Prop} (h : Ef P r o e H N) (k : ∀ v H', N v H' → N' v H') : Ef P r o e H N' := fun a w ha hs =>
  (h a w ha hs).mono fun _ _ ⟨H', n, s⟩ => ⟨H', k _ _ n, s⟩
theorem Ef.ent {o : Oper} {N : Value → List SP → Prop} {H' : List SP} (h : Ef P r o e H' N) (k : Ent H H') : Ef P r o e H N := fun a w ha hs => h a w ha (k _ hs)
theorem Qt.ef {o : Oper} {v : Value} (h : Qt P r o e H v) : Ef P r o e H (fun u H' => u = v ∧ H' = H) := fun a w ha hs => by
  unfold op1; rw [h a w ha hs]; exact ⟨H, ⟨rfl, rfl⟩, hs⟩

end

/-! ### A region that draws its order -/
section draw
variable (ops : Array Oper)
def deps (k : Nat) : List Nat := match ops[k]? with
  | some o => o.after.toList.filterMap fun e => if Region.binds .any e then some e.on else none
  | none => []
inductive Anc : Nat → Nat → Prop
  | one {i k : Nat} (h : i ∈ deps ops k) : Anc i k
  | more {i j k : Nat} (h : j ∈ deps ops k) (t : Anc i j) : Anc i k
def dstOf (i : Nat) : Option Tmp := (ops[i]?).bind (·.dst)
/-- Its temporary is looked at by those alone that wait for it, and written by nobody else. -/
def freshB (i : Nat) : Bool := match ops[i]? with
  | none => false
  | some o => match o.dst with
    | none => false
    | some d => !(o.looksAt ops).contains d && (List.range ops.size).all fun k => k == i || (match ops[k]? with
      | none => true
      | some q => q.dst != some d && (!(q.looksAt ops).contains d || (deps ops k).contains i))
/-- the ancestors, as far as so many steps go -/
def ancs : Nat → Nat → List Nat
  | 0, _ => []
  | f + 1, k => (deps ops k).flatMap fun j => j :: ancs f j
def noSel : Bool := ops.toList.all fun o => match o.op with | .select .. => false | .defer .. => false | _ => true
def lst (L D : List Nat) : Array Bool := (Array.range ops.size).map fun j => L.contains j && !D.contains j
def readyOf (L : List Nat) : List Nat := (List.range ops.size).filter fun j => !L.contains j && (deps ops j).all (L.contains ·)
def depsLt : Bool := (List.range ops.size).all fun k => (deps ops k).all (· < k)

theorem ancs_anc : ∀ (f k i : Nat), i ∈ ancs ops f k → Anc ops i k
  | 0, _, _, h => by simp [ancs] at h
  | f + 1, k, i, h => by
    simp only [ancs, List.mem_flatMap, List.mem_cons] at h
    obtain ⟨j, hj, rfl | h⟩ := h
    · exact .one hj
    · exact .more hj (ancs_anc f j i h)

structure WfL (L D : List Nat) : Prop where
  nd : L.Nodup
  lt : ∀ j ∈ L, j < ops.size
  cl : ∀ j ∈ L, ∀ d ∈ deps ops j, d ∈ L
  sub : ∀ i ∈ D, i ∈ L

def Clo (L D' : List Nat) : Prop := ∀ j ∈ L, j ∉ D' → ∀ i ∈ D', ¬ Anc ops i j
structure Lag (D' : List Nat) (a a' : Act) : Prop where
  size : a'.tmps.size = a.tmps.size
  ds : a'.defers = a.defers
  val : ∀ t, (∀ i ∈ D', dstOf ops i ≠ some t) → a'.tmps[t]? = a.tmps[t]?

/-- Operation i yields v here. -/
def Yl (P : Program) (r : Option Nat) (i : Nat) (v : Value) (a : Act) (w : World) : Prop :=
  ∃ o, ops[i]? = some o ∧ ((Region.wanted o (yielded ops a.tmps) = true ∧ (o.semAt r a.eval).run P w = .ok (.value v) w) ∨
    (Region.wanted o (yielded ops a.tmps) = false ∧ v = undef))

/-- What is known of those that may still be behind: pure ones (in any world), readers (in this one). -/
def Inv (P : Program) (r : Option Nat) (Dp Dr : List Nat) (a : Act) (w : World) : Prop :=
  (∀ i ∈ Dp, freshB ops i = true ∧ ∃ v d, dstOf ops i = some d ∧ a.tmps[d]? = some v ∧ ∀ w, Yl ops P r i v a w) ∧
  (∀ i ∈ Dr, freshB ops i = true ∧ ∃ v d, dstOf ops i = some d ∧ a.tmps[d]? = some v ∧ Yl ops P r i v a w)

def RB (P : Program) (r : Option Nat) (K : Kt) (L Dp Dr : List Nat) (a : Act) (w : World) : Prop :=
  WfL ops L (Dp ++ Dr) → Inv ops P r Dp Dr a w → ∀ (D' : List Nat) (a' : Act), (∀ i ∈ D', i ∈ Dp ++ Dr) → D'.Nodup → Clo ops L D' → Lag ops D' a a' →
    wpAnyIn (Fw r) 0 P .any ops K (ops.size - L.length + D'.length) (lst ops L D') a' w

theorem lst_getD (L D : List Nat) (j : Nat) (d : Bool) : (lst ops L D).getD j d = if j < ops.size then (L.contains j && !D.contains j) else d := by
  unfold lst
  by_cases h : j < ops.size
  · simp [h]
  · simp [h]

theorem lst_set {L D : List Nat} {i : Nat} (hi : i ∉ D) : (lst ops L D).setIfInBounds i true = lst ops (i :: L) D := by
  unfold lst
  apply Array.ext_getElem?
  intro j
  rw [Array.getElem?_setIfInBounds]
  by_cases hj : i = j
  · subst hj
    by_cases hlt : i < ops.size
    · simp [hlt, hi]
    · simp [hlt]
  · have : (j == i) = false := by simp; omega
    rw [if_neg hj]
    by_cases hlt : j < ops.size
    · simp [hlt, show ¬ j = i by omega]
    · simp [hlt]

theorem lst_erase {L D : List Nat} {i : Nat} (hL : i ∈ L) (hD : D.Nodup) : (lst ops L D).setIfInBounds i true = lst ops L (D.erase i) := by
  unfold lst
  apply Array.ext_getElem?
  intro j
  rw [Array.getElem?_setIfInBounds]
  by_cases hj : i = j
  · subst hj
    by_cases hlt : i < ops.size
    · simp [hlt, hL, hD.mem_erase_iff]
    · simp [hlt]
  · rw [if_neg hj]
    by_cases hlt : j < ops.size
    · simp [hlt, hD.mem_erase_iff, show ¬ j = i by omega]
    · simp [hlt]

theorem mem_readyL {L D : List Nat} {j : Nat} (hL : ∀ x ∈ L, x < ops.size) : j ∈ Region.ready .any ops (lst ops L D) ↔
    j < ops.size ∧ (j ∉ L ∨ j ∈ D) ∧ ∀ d ∈ deps ops j, d ∈ L ∧ d ∉ D := by
  rw [mem_ready, lst_getD]
  constructor
  · rintro ⟨h0, o, ho, hall⟩
    have hlt : j < ops.size := (Array.getElem?_eq_some_iff.1 ho).1
    rw [if_pos hlt] at h0
    refine ⟨hlt, ?_, fun d hd => ?_⟩
    · by_cases hj : j ∈ L
      · right; simpa [hj] using h0
      · left; exact hj
    · unfold deps at hd
      rw [ho] at hd
      simp only [List.mem_filterMap] at hd
      obtain ⟨e, he, hx⟩ := hd
      split at hx
      · rename_i hb
        cases hx
        have := hall e (by simpa using he) hb
        rw [lst_getD] at this
        split at this
        · simpa using this
        · cases this
      · cases hx
  · rintro ⟨hlt, h0, hall⟩
    rw [if_pos hlt]
    refine ⟨?_, ops[j], by simp [hlt], fun e he hb => ?_⟩
    · rcases h0 with h | h
      · simp [h]
      · simp [h]
    · have hd : e.on ∈ deps ops j := by
        unfold deps
        simp only [hlt, getElem?_pos, List.mem_filterMap]
        exact ⟨e, by simpa using he, by simp [hb]⟩
      obtain ⟨h1, h2⟩ := hall _ hd
      rw [lst_getD, if_pos (hL _ h1)]
      simp [h1, h2]

theorem nodup_len : ∀ (n : Nat) (L : List Nat), L.Nodup → (∀ x ∈ L, x < n) → L.length ≤ n
  | 0, L, _, h => by
    cases L with
    | nil => simp
    | cons x L => have := h x (by simp); omega
  | n + 1, L, hn, h => by
    by_cases hm : n ∈ L
    · have h1 := nodup_len n (L.erase n) (hn.erase n) (fun x hx => by
        have hx' := (hn.mem_erase_iff.1 hx)
        have := h x hx'.2
        have := hx'.1
        omega)
      have := List.length_erase_of_mem hm
      omega
    · have h1 := nodup_len n L hn (fun x hx => by
        have := h x hx
        have : x ≠ n := fun e => hm (e ▸ hx)
        omega)
      omega

theorem fresh_spec {i : Nat} (h : freshB ops i = true) : ∃ o d, ops[i]? = some o ∧ o.dst = some d ∧ d ∉ o.looksAt ops ∧
    ∀ k q, ops[k]? = some q → k ≠ i → q.dst ≠ some d ∧ (d ∈ q.looksAt ops → i ∈ deps ops k) := by
  unfold freshB at h
  split at h
  · cases h
  · rename_i o ho
    split at h
    · cases h
    · rename_i d hd
      simp only [Bool.and_eq_true, Bool.not_eq_true', List.all_eq_true, List.mem_range, Bool.or_eq_true, beq_iff_eq] at h
      refine ⟨o, d, ho, hd, by simpa using h.1, fun k q hq hk => ?_⟩
      have hlt : k < ops.size := (Array.getElem?_eq_some_iff.1 hq).1
      have := (h.2 k hlt).resolve_left hk
      rw [hq] at this
      simp only [Bool.and_eq_true, bne_iff_ne, ne_eq, Bool.or_eq_true, Bool.not_eq_true'] at this
      refine ⟨this.1, fun hm => ?_⟩
      rcases this.2 with h2 | h2
      · simp [hm] at h2
      · simpa using h2

theorem noSel_spec (h : noSel ops = true) {j : Nat} {o : Oper} (ho : ops[j]? = some o) : (∀ cs b, o.op ≠ .select cs b) ∧ ∀ c, o.op ≠ .defer c := by
  unfold noSel at h
  rw [List.all_eq_true] at h
  have := h o (by simpa using Array.mem_of_getElem? ho)
  constructor <;> intros <;> intro e <;> simp [e] at this

/-- Two activations that agree on what an operation looks at. -/
theorem same_of {o : Oper} {a a' : Act} (hs : ∀ cs b, o.op ≠ .select cs b) (hd : ∀ c, o.op ≠ .defer c)
    (h : ∀ t ∈ o.looksAt ops, a'.tmps[t]? = a.tmps[t]?) (r : Option Nat) :
    o.semAt r a'.eval = o.semAt r a.eval ∧ Region.wanted o (yielded ops a'.tmps) = Region.wanted o (yielded ops a.tmps) := by
  constructor
  · rw [Oper.semAt_eq _ _ _ hd, Oper.semAt_eq _ _ _ hd]
    refine execOp_congr o hs fun x hx => ?_
    cases x with
    | tmp t =>
      have := h t (List.mem_append_left _ (List.mem_filterMap.2 ⟨.tmp t, by simpa using hx, rfl⟩))
      simp only [Act.eval, Array.getD_eq_getD_getElem?, this]
    | _ => rfl
  · unfold Region.wanted
    cases hg : o.guard with
    | none => rfl
    | some p =>
      obtain ⟨g, b⟩ := p
      have : yielded ops a'.tmps g = yielded ops a.tmps g := by
        unfold yielded
        cases ht : (ops[g]?).bind (·.dst) with
        | none => rfl
        | some t =>
          have := h t (List.mem_append_right _ (by simp [hg, ht]))
          simp only [Option.bind_some, this]
      simp only [this]

theorem Yl.of_same {P : Program} {r : Option Nat} {i : Nat} {v : Value} {a a' : Act} {w : World} (hsel : noSel ops = true) (h : Yl ops P r i v a w)
    (hs : ∀ o, ops[i]? = some o → ∀ t ∈ o.looksAt ops, a'.tmps[t]? = a.tmps[t]?) : Yl ops P r i v a' w := by
  obtain ⟨o, ho, h⟩ := h
  obtain ⟨h1, h2⟩ := noSel_spec ops hsel ho
  obtain ⟨e1, e2⟩ := same_of ops h1 h2 (hs o ho) r
  exact ⟨o, ho, by rw [e1, e2]; exact h⟩

theorem put_ne {a : Act} {d : Option Tmp} {v : Value} {t : Tmp} (h : d ≠ some t) : (a.put d v).tmps[t]? = a.tmps[t]? := by
  cases d with
  | none => rfl
  | some d => exact Array.getElem?_setIfInBounds_ne (fun e => h (by rw [e]))
theorem put_same {a : Act} {d : Tmp} {v : Value} (h : d < a.tmps.size) : (a.put (some d) v).tmps[d]? = some v := by
  simp [Act.put, h]
theorem put_size {a : Act} {d : Option Tmp} {v : Value} : (a.put d v).tmps.size = a.tmps.size := by
  cases d <;> simp [Act.put]
theorem put_ds {a : Act} {d : Option Tmp} {v : Value} : (a.put d v).defers = a.defers := by
  cases d <;> simp [Act.put]

section rules
variable {P : Program} {r : Option Nat} {K : Kt} {L Dp Dr : List Nat} {a : Act} {w : World}

theorem WfL.cons {D : List Nat} (h : WfL ops L D) {i : Nat} (hi : i ∉ L) (hlt : i < ops.size) (hd : ∀ x ∈ deps ops i, x ∈ L) {D2 : List Nat} (hs : ∀ x ∈ D2, x = i ∨ x ∈ L) : WfL ops (i :: L) D2 :=
  ⟨List.nodup_cons.2 ⟨hi, h.nd⟩, fun j hj => by
      rcases List.mem_cons.1 hj with rfl | hj
      · exact hlt
      · exact h.lt j hj,
    fun j hj d hd' => by
      rcases List.mem_cons.1 hj with rfl | hj
      · exact List.mem_cons_of_mem _ (hd d hd')
      · exact List.mem_cons_of_mem _ (h.cl j hj d hd'),
    fun x hx => by
      rcases hs x hx with rfl | h
      · simp
      · simp [h]⟩

theorem len_lt {D : List Nat} (h : WfL ops L D) {i : Nat} (hi : i ∉ L) (hlt : i < ops.size) : L.length < ops.size := by
  have := nodup_len ops.size (i :: L) (List.nodup_cons.2 ⟨hi, h.nd⟩) (fun x hx => by
    rcases List.mem_cons.1 hx with rfl | hx
    · exact hlt
    · exact h.lt x hx)
  simp at this
  omega

/-- what is known of others is known still, when a fresh temporary is filled -/
theorem inv_put (hsel : noSel ops = true) (wf : WfL ops L (Dp ++ Dr)) (inv : Inv ops P r Dp Dr a w) {i : Nat} {d : Tmp} {v : Value} (hi : i ∉ L)
    (hf : freshB ops i = true) (hd : dstOf ops i = some d) : Inv ops P r Dp Dr (a.put (some d) v) w := by
  obtain ⟨oi, di, hoi, hdi, _, hall⟩ := fresh_spec ops hf
  have ed : di = d := by unfold dstOf at hd; rw [hoi] at hd; simp [hdi] at hd; exact hd
  subst ed
  have key : ∀ j ∈ Dp ++ Dr, freshB ops j = true → ∀ dj, dstOf ops j = some dj → (∀ u, a.tmps[dj]? = some u → (a.put (some di) v).tmps[dj]? = some u) ∧
      ∀ o, ops[j]? = some o → ∀ t ∈ o.looksAt ops, (a.put (some di) v).tmps[t]? = a.tmps[t]? := by
    intro j hj hfj dj hdj
    have hjL := wf.sub j hj
    have hne : j ≠ i := fun e => hi (e ▸ hjL)
    obtain ⟨oj, d', hoj, hdj', _, hallj⟩ := fresh_spec ops hfj
    have : d' = dj := by unfold dstOf at hdj; rw [hoj] at hdj; simp [hdj'] at hdj; exact hdj
    subst this
    have h1 := (hallj i oi hoi (Ne.symm hne)).1
    refine ⟨fun u hu => by rw [put_ne (by rw [← hdi]; exact h1)]; exact hu, fun o ho t ht => put_ne fun e => ?_⟩
    cases e
    have := (hall j o ho hne).2 ht
    exact hi (wf.cl j hjL _ this)
  refine ⟨fun j hj => ?_, fun j hj => ?_⟩
  · obtain ⟨f, u, dj, h1, h2, h3⟩ := inv.1 j hj
    obtain ⟨k1, k2⟩ := key j (List.mem_append_left _ hj) f dj h1
    exact ⟨f, u, dj, h1, k1 u h2, fun w => (h3 w).of_same ops hsel k2⟩
  · obtain ⟨f, u, dj, h1, h2, h3⟩ := inv.2 j hj
    obtain ⟨k1, k2⟩ := key j (List.mem_append_right _ hj) f dj h1
    exact ⟨f, u, dj, h1, k1 u h2, h3.of_same ops hsel k2⟩

theorem lst_cons2 {D' : List Nat} {i : Nat} (hi : i ∉ L) : lst ops (i :: L) (i :: D') = lst ops L D' := by
  unfold lst
  apply Array.ext_getElem?
  intro j
  by_cases hlt : j < ops.size
  · by_cases hj : j = i
    · subst hj; simp [hlt, hi]
    · simp [hlt, hj]
  · simp [hlt]

theorem quiet_core {i : Nat} {v : Value} {d : Tmp} (hi : i ∉ L) (hlt : i < ops.size) (hdp : ∀ x ∈ deps ops i, x ∈ L)
    (hf : freshB ops i = true) (hd : dstOf ops i = some d) {Dp2 Dr2 : List Nat} (hD : ∀ x, x ∈ Dp2 ++ Dr2 ↔ x = i ∨ x ∈ Dp ++ Dr)
    (hinv : WfL ops L (Dp ++ Dr) → Inv ops P r Dp Dr a w → Inv ops P r Dp2 Dr2 (a.put (some d) v) w)
    (k : RB ops P r K (i :: L) Dp2 Dr2 (a.put (some d) v) w) : RB ops P r K L Dp Dr a w := by
  intro wf inv D' a' hD' nd clo lag
  have hlen := len_lt ops wf hi hlt
  have hiD : i ∉ D' := fun h => hi (wf.sub i (hD' i h))
  have := k (wf.cons ops hi hlt hdp fun x hx => ((hD x).1 hx).imp id (wf.sub x)) (hinv wf inv) (i :: D') a'
    (fun x hx => by rcases List.mem_cons.1 hx with rfl | hx; exact (hD _).2 (.inl rfl); exact (hD _).2 (.inr (hD' x hx)))
    (List.nodup_cons.2 ⟨hiD, nd⟩)
    (fun j hj hjD x hx => by
      have hjL : j ∈ L := by
        rcases List.mem_cons.1 hj with rfl | h
        · exact absurd (by simp) hjD
        · exact h
      have hji : j ∉ D' := fun h => hjD (by simp [h])
      rcases List.mem_cons.1 hx with rfl | hx
      · -- nobody that is listed waits for i
        intro hanc
        have : ∀ x y, Anc ops x y → y ∈ L → x ∈ L := by
          intro x y h
          induction h with
          | one h => exact fun hy => wf.cl _ hy _ h
          | more h _ ih => exact fun hy => ih (wf.cl _ hy _ h)
        exact hi (this _ _ hanc hjL)
      · exact clo j hjL hji x hx)
    ⟨by rw [lag.size, put_size], by rw [lag.ds, put_ds], fun t ht => by
      rw [lag.val t fun x hx => ht x (by simp [hx]), put_ne]
      intro e; cases e
      exact ht i (by simp) hd⟩
  rw [lst_cons2 ops hi] at this
  have e : ops.size - (i :: L).length + (i :: D').length = ops.size - L.length + D'.length := by simp; omega
  rw [e] at this
  exact this

theorem fresh_dst {i : Nat} {d : Tmp} (hf : freshB ops i = true) (hd : dstOf ops i = some d) : ∀ o, ops[i]? = some o → d ∉ o.looksAt ops := by
  obtain ⟨oi, di, hoi, hdi, hn, _⟩ := fresh_spec ops hf
  intro o ho
  rw [hoi] at ho; cases ho
  have ed : di = d := by unfold dstOf at hd; rw [hoi] at hd; simp [hdi] at hd; exact hd
  subst ed; exact hn

theorem RB.pure (hsel : noSel ops = true) {i : Nat} {v : Value} {d : Tmp} (hi : i ∉ L) (hlt : i < ops.size) (hdp : ∀ x ∈ deps ops i, x ∈ L)
    (hf : freshB ops i = true) (hd : dstOf ops i = some d) (hdn : d < a.tmps.size) (hy : ∀ w, Yl ops P r i v a w)
    (k : RB ops P r K (i :: L) (i :: Dp) Dr (a.put (some d) v) w) : RB ops P r K L Dp Dr a w :=
  quiet_core ops hi hlt hdp hf hd (fun x => by simp) (fun wf inv => by
    have h := inv_put ops hsel wf inv (v := v) hi hf hd
    refine ⟨fun j hj => ?_, h.2⟩
    rcases List.mem_cons.1 hj with rfl | hj
    · exact ⟨hf, v, d, hd, put_same hdn, fun w => (hy w).of_same ops hsel fun o ho t ht => put_ne fun e => by cases e; exact fresh_dst ops hf hd o ho ht⟩
    · exact h.1 j hj) k

theorem RB.read (hsel : noSel ops = true) {i : Nat} {v : Value} {d : Tmp} (hi : i ∉ L) (hlt : i < ops.size) (hdp : ∀ x ∈ deps ops i, x ∈ L)
    (hf : freshB ops i = true) (hd : dstOf ops i = some d) (hdn : d < a.tmps.size) (hy : Yl ops P r i v a w)
    (k : RB ops P r K (i :: L) Dp (i :: Dr) (a.put (some d) v) w) : RB ops P r K L Dp Dr a w :=
  quiet_core ops hi hlt hdp hf hd (fun x => by simp only [List.mem_append, List.mem_cons]; constructor <;> (rintro (h | h | h) <;> simp [h])) (fun wf inv => by
    have h := inv_put ops hsel wf inv (v := v) hi hf hd
    refine ⟨h.1, fun j hj => ?_⟩
    rcases List.mem_cons.1 hj with rfl | hj
    · exact ⟨hf, v, d, hd, put_same hdn, hy.of_same ops hsel fun o ho t ht => put_ne fun e => by cases e; exact fresh_dst ops hf hd o ho ht⟩
    · exact h.2 j hj) k

/-- Those that are behind come up by and by; what else may come up is asked for. -/
theorem lag_core (hsel : noSel ops = true) (hdl : depsLt ops = true) (wf : WfL ops L (Dp ++ Dr)) (inv : Inv ops P r Dp Dr a w)
    (hA : ∀ (D' : List Nat) (a' : Act), (∀ i ∈ D', i ∈ Dp ++ Dr) → D'.Nodup → Clo ops L D' → Lag ops D' a a' → ∀ j, j ∉ L → j < ops.size → (∀ x ∈ deps ops j, x ∈ L ∧ x ∉ D') →
      wpOpIn (Fw r) 0 P ops K j (wpAnyIn (Fw r) 0 P .any ops K (ops.size - (L.length + 1) + D'.length) (lst ops (j :: L) D')) a' w)
    (hB : (∀ j, j < ops.size → j ∉ L → ¬ ∀ x ∈ deps ops j, x ∈ L) → K .normal a w) :
    ∀ (n : Nat) (D' : List Nat) (a' : Act), D'.length = n → (∀ i ∈ D', i ∈ Dp ++ Dr) → D'.Nodup → Clo ops L D' → Lag ops D' a a' →
      wpAnyIn (Fw r) 0 P .any ops K (ops.size - L.length + D'.length) (lst ops L D') a' w := by
  have lagnil : ∀ a', Lag ops [] a a' → a' = a := by
    intro a' h
    obtain ⟨t, ds⟩ := a; obtain ⟨t', ds'⟩ := a'
    have h1 : t' = t := Array.ext_getElem? fun j => h.val j (by simp)
    have h2 : ds' = ds := h.ds
    rw [h1, h2]
  intro n
  induction n with
  | zero =>
    intro D' a' hn hD' nd clo lag
    have e0 : D' = [] := List.length_eq_zero_iff.1 hn
    subst e0
    have ea := lagnil a' lag
    have hready : Region.ready .any ops (lst ops L []) = [] → K .normal a' w := fun h0 => by
      rw [ea]
      refine hB fun j hlt hj hall => ?_
      have : j ∈ Region.ready .any ops (lst ops L []) := (mem_readyL ops wf.lt).2 ⟨hlt, .inl hj, fun d hd => ⟨hall d hd, by simp⟩⟩
      rw [h0] at this; cases this
    cases hf : ops.size - L.length + ([] : List Nat).length with
    | zero =>
      have hfull : L.length = ops.size := by
        have := nodup_len ops.size L wf.nd wf.lt
        simp at hf; omega
      have h0 : Region.ready .any ops (lst ops L []) = [] := by
        cases hr : Region.ready .any ops (lst ops L []) with
        | nil => rfl
        | cons j _ =>
          have hj := (mem_readyL ops wf.lt).1 (show j ∈ Region.ready .any ops (lst ops L []) by rw [hr]; simp)
          have := len_lt ops wf (hj.2.1.resolve_right (by simp)) hj.1
          omega
      exact ⟨h0, hready h0⟩
    | succ f =>
      refine ⟨hready, fun j hj => ?_⟩
      have hj' := (mem_readyL ops wf.lt).1 hj
      have hjL := hj'.2.1.resolve_right (by simp)
      have := hA [] a' hD' nd clo lag j hjL hj'.1 hj'.2.2
      have hlen := len_lt ops wf hjL hj'.1
      rw [lst_set ops (by simp), show f = ops.size - (L.length + 1) + ([] : List Nat).length by simp at hf ⊢; omega]
      exact this
  | succ n ih =>
    intro D' a' hn hD' nd clo lag
    rw [show ops.size - L.length + D'.length = (ops.size - L.length + n) + 1 by omega]
    refine ⟨fun h0 => ?_, fun j hj => ?_⟩
    · -- the least of them is ready
      exfalso
      obtain ⟨m, hm, hmin⟩ := least (p := (· ∈ D')) (by
        cases D' with
        | nil => simp at hn
        | cons x _ => exact ⟨x, by simp⟩)
      have hmL := wf.sub m (hD' m hm)
      have hlt := wf.lt m hmL
      have : m ∈ Region.ready .any ops (lst ops L D') := (mem_readyL ops wf.lt).2 ⟨hlt, .inr hm, fun d hd => ⟨wf.cl m hmL d hd, fun hdD => by
        have h1 := hmin d hdD
        unfold depsLt at hdl
        rw [List.all_eq_true] at hdl
        have h2 := hdl m (List.mem_range.2 hlt)
        rw [List.all_eq_true] at h2
        have := h2 d hd
        simp at this
        omega⟩⟩
      rw [h0] at this; cases this
    · have hj' := (mem_readyL ops wf.lt).1 hj
      by_cases hjL : j ∈ L
      · -- one of those that are behind
        have hjD := hj'.2.1.resolve_left (fun h => h hjL)
        have noanc : ∀ i ∈ D', ¬ Anc ops i j := by
          intro i hi hanc
          cases hanc with
          | one h => exact (hj'.2.2 i h).2 hi
          | more h t => exact clo _ (hj'.2.2 _ h).1 (hj'.2.2 _ h).2 i hi t
        have hyl : ∃ v d, dstOf ops j = some d ∧ a.tmps[d]? = some v ∧ Yl ops P r j v a w ∧ freshB ops j = true := by
          rcases List.mem_append.1 (hD' j hjD) with h | h
          · obtain ⟨f, v, d, h1, h2, h3⟩ := inv.1 j h
            exact ⟨v, d, h1, h2, h3 w, f⟩
          · obtain ⟨f, v, d, h1, h2, h3⟩ := inv.2 j h
            exact ⟨v, d, h1, h2, h3, f⟩
        obtain ⟨v, d, hd, hv, hy, hf⟩ := hyl
        have hy' : Yl ops P r j v a' w := hy.of_same ops hsel fun o ho t ht => lag.val t fun i hi e => by
          have hfi : freshB ops i = true := by
            rcases List.mem_append.1 (hD' i hi) with h | h
            · exact (inv.1 i h).1
            · exact (inv.2 i h).1
          obtain ⟨oi, di, hoi, hdi, hn1, hall⟩ := fresh_spec ops hfi
          have ed : di = t := by unfold dstOf at e; rw [hoi] at e; simp [hdi] at e; exact e
          subst ed
          by_cases hij : j = i
          · subst hij; rw [ho] at hoi; cases hoi; exact hn1 ht
          · exact (hj'.2.2 i ((hall j o ho hij).2 ht)).2 hi
        obtain ⟨o, ho, hy'⟩ := hy'
        have hod : o.dst = some d := by unfold dstOf at hd; rw [ho] at hd; simpa using hd
        have hdn : d < a'.tmps.size := by
          rw [lag.size]
          exact (Array.getElem?_eq_some_iff.1 hv).1
        have fin := ih (D'.erase j) (a'.put (some d) v) (by rw [List.length_erase_of_mem hjD]; omega) (fun i hi => hD' i (List.mem_of_mem_erase hi)) (nd.erase j)
          (fun x hx hxD i hi => by
            have hi' := List.mem_of_mem_erase hi
            by_cases hxj : x = j
            · subst hxj; exact noanc i hi'
            · exact clo x hx (fun h => hxD ((nd.mem_erase_iff).2 ⟨hxj, h⟩)) i hi')
          ⟨by rw [put_size, lag.size], by rw [put_ds, lag.ds], fun t ht => by
            by_cases htd : t = d
            · subst htd; rw [put_same hdn, hv]
            · rw [put_ne (fun e => htd (by cases e; rfl))]
              refine lag.val t fun i hi e => ?_
              by_cases hij : i = j
              · subst hij; rw [hd] at e; cases e; exact htd rfl
              · exact ht i ((nd.mem_erase_iff).2 ⟨hij, hi⟩) e⟩
        rw [List.length_erase_of_mem hjD, show D'.length - 1 = n by omega] at fin
        unfold wpOpIn
        rw [ho]
        simp only
        rw [lst_erase ops hjL nd]
        rcases hy' with ⟨hw, hrun⟩ | ⟨hw, rfl⟩
        · rw [if_pos hw]
          refine ⟨fun _ _ => trivial, ?_⟩
          rw [show (Fw r).round = r from rfl, hrun]
          show wpAnyIn (Fw r) 0 P .any ops K _ _ (a'.put o.dst v) w
          rw [hod]; exact fin
        · rw [if_neg (by rw [hw]; simp), hod]
          exact ⟨fun _ _ => trivial, fin⟩
      · have hjD : j ∉ D' := fun h => hjL (wf.sub j (hD' j h))
        have := hA D' a' hD' nd clo lag j hjL hj'.1 hj'.2.2
        have hlen := len_lt ops wf hjL hj'.1
        rw [lst_set ops hjD, show ops.size - L.length + n = ops.size - (L.length + 1) + D'.length by omega]
        exact this

theorem RB.done (hsel : noSel ops = true) (hdl : depsLt ops = true) (hr : readyOf ops L = []) (h : K .normal a w) : RB ops P r K L Dp Dr a w := by
  intro wf inv D' a' hD' nd clo lag
  have hno : ∀ j, j < ops.size → j ∉ L → ¬ ∀ x ∈ deps ops j, x ∈ L := fun j hlt hj hall => by
    have : j ∈ readyOf ops L := by unfold readyOf; simp [hlt, hj]; exact hall
    rw [hr] at this; cases this
  exact lag_core ops hsel hdl wf inv (fun D' a' _ _ _ _ j hj hlt hall => absurd (fun x hx => (hall x hx).1) (hno j hlt hj)) (fun _ => h) _ D' a' rfl hD' nd clo lag

/-- May k come up while those of D are behind? its temporary is none that they look at. -/
def clash (k : Nat) (D : List Nat) : Bool := match dstOf ops k with
  | none => false
  | some d => D.any fun i => match ops[i]? with
    | none => false
    | some o => (o.looksAt ops).contains d || o.dst == some d

theorem RB.act (hsel : noSel ops = true) (hdl : depsLt ops = true) {rs : List Nat} (hne : rs ≠ []) (hr : readyOf ops L = rs)
    (step : ∀ k ∈ rs, ∃ o Dp' Dr', ops[k]? = some o ∧ (∀ i ∈ Dp ++ Dr, i ∉ ancs ops ops.size k → i ∈ Dp' ++ Dr') ∧ (∀ i ∈ Dp', i ∈ Dp) ∧ (∀ i ∈ Dr', i ∈ Dr) ∧ clash ops k (Dp' ++ Dr') = false ∧
      (∀ d, o.dst = some d → d < a.tmps.size) ∧
      (if Region.wanted o (yielded ops a.tmps) then op1 P r o a w fun v w' => (∀ i ∈ Dr', ∀ u d, dstOf ops i = some d → a.tmps[d]? = some u → Yl ops P r i u (a.put o.dst v) w') ∧ RB ops P r K (k :: L) Dp' Dr' (a.put o.dst v) w'
        else (RB ops P r K (k :: L) Dp' Dr' (a.put o.dst undef) w))) : RB ops P r K L Dp Dr a w := by
  intro wf inv D' a' hD' nd clo lag
  refine lag_core ops hsel hdl wf inv (fun D' a' hD' nd clo lag k hkL hlt hall => ?_) (fun hno => ?_) _ D' a' rfl hD' nd clo lag
  · have hk : k ∈ rs := by rw [← hr]; unfold readyOf; simp [hlt, hkL]; exact fun x hx => (hall x hx).1
    obtain ⟨o, Dp', Dr', ho, hcov, hsp, hsr, hcl, hdn, hst⟩ := step k hk
    have noanc : ∀ i ∈ D', ¬ Anc ops i k := by
      intro i hi hanc
      cases hanc with
      | one h => exact (hall i h).2 hi
      | more h t => exact clo _ (hall _ h).1 (hall _ h).2 i hi t
    have hfr : ∀ i ∈ Dp ++ Dr, freshB ops i = true := fun i hi => by
      rcases List.mem_append.1 hi with h | h
      · exact (inv.1 i h).1
      · exact (inv.2 i h).1
    have hne_k : ∀ i ∈ Dp ++ Dr, k ≠ i := fun i hi e => hkL (e ▸ wf.sub i hi)
    have same : ∀ t ∈ o.looksAt ops, a'.tmps[t]? = a.tmps[t]? := fun t ht => lag.val t fun i hi e => by
      obtain ⟨oi, di, hoi, hdi, _, hall2⟩ := fresh_spec ops (hfr i (hD' i hi))
      have ed : di = t := by unfold dstOf at e; rw [hoi] at e; simp [hdi] at e; exact e
      subst ed
      exact (hall i ((hall2 k o ho (hne_k i (hD' i hi))).2 ht)).2 hi
    obtain ⟨s1, s2⟩ := noSel_spec ops hsel ho
    obtain ⟨e1, e2⟩ := same_of ops s1 s2 same r
    -- behind the operation
    have wf' : WfL ops (k :: L) (Dp' ++ Dr') := wf.cons ops hkL hlt (fun x hx => (hall x hx).1) (fun x hx => .inr (by
      rcases List.mem_append.1 hx with h | h
      · exact wf.sub x (List.mem_append_left _ (hsp x h))
      · exact wf.sub x (List.mem_append_right _ (hsr x h))))
    have apart : ∀ i ∈ Dp' ++ Dr', (∀ d, dstOf ops i = some d → ∀ v, (a.put o.dst v).tmps[d]? = a.tmps[d]?) ∧ ∀ q, ops[i]? = some q → ∀ t ∈ q.looksAt ops, ∀ v, (a.put o.dst v).tmps[t]? = a.tmps[t]? := by
      intro i hi
      unfold clash dstOf at hcl
      rw [ho] at hcl
      simp only [Option.bind_some] at hcl
      cases hd : o.dst with
      | none => exact ⟨fun _ _ _ => rfl, fun _ _ _ _ _ => rfl⟩
      | some d =>
        rw [hd] at hcl
        simp only [List.any_eq_false] at hcl
        have := hcl i hi
        refine ⟨fun x hx v => put_ne fun e => ?_, fun q hq t ht v => put_ne fun e => ?_⟩
        · cases e
          unfold dstOf at hx
          cases hoi : ops[i]? with
          | none => rw [hoi] at hx; simp at hx
          | some q => rw [hoi] at hx this; simp at hx this; exact this.2 hx
        · cases e
          rw [hq] at this; simp at this; exact this.1 ht
    have inv' : ∀ v w', (∀ i ∈ Dr', ∀ u d, dstOf ops i = some d → a.tmps[d]? = some u → Yl ops P r i u (a.put o.dst v) w') → Inv ops P r Dp' Dr' (a.put o.dst v) w' := by
      intro v w' hprom
      refine ⟨fun i hi => ?_, fun i hi => ?_⟩
      · obtain ⟨f, u, d, h1, h2, h3⟩ := inv.1 i (hsp i hi)
        obtain ⟨k1, k2⟩ := apart i (List.mem_append_left _ hi)
        exact ⟨f, u, d, h1, by rw [k1 d h1]; exact h2, fun w => (h3 w).of_same ops hsel fun q hq t ht => k2 q hq t ht v⟩
      · obtain ⟨f, u, d, h1, h2, h3⟩ := inv.2 i (hsr i hi)
        obtain ⟨k1, k2⟩ := apart i (List.mem_append_right _ hi)
        exact ⟨f, u, d, h1, by rw [k1 d h1]; exact h2, hprom i hi u d h1 h2⟩
    have lag' : ∀ v, Lag ops D' (a.put o.dst v) (a'.put o.dst v) := fun v => by
      refine ⟨by rw [put_size, put_size, lag.size], by rw [put_ds, put_ds, lag.ds], fun t ht => ?_⟩
      by_cases hod : o.dst = some t
      · rw [hod, put_same (by rw [lag.size]; exact hdn t hod), put_same (hdn t hod)]
      · rw [put_ne hod, put_ne hod]; exact lag.val t ht
    have clo' : Clo ops (k :: L) D' := fun j hj hjD i hi => by
      rcases List.mem_cons.1 hj with rfl | hj
      · exact noanc i hi
      · exact clo j hj hjD i hi
    have hD2 : ∀ i ∈ D', i ∈ Dp' ++ Dr' := fun i hi => hcov i (hD' i hi) fun h => noanc i hi (ancs_anc ops _ _ _ h)
    unfold wpOpIn
    rw [ho]
    simp only
    rw [e2]
    split
    · rename_i hw
      rw [if_pos hw] at hst
      have hst' : op1 P r o a' w fun v w' => (∀ i ∈ Dr', ∀ u d, dstOf ops i = some d → a.tmps[d]? = some u → Yl ops P r i u (a.put o.dst v) w') ∧ RB ops P r K (k :: L) Dp' Dr' (a.put o.dst v) w' := by
        unfold op1 at hst ⊢; rw [e1]; exact hst
      refine hst'.wpIn fun v w' ⟨hprom, hrb⟩ => ?_
      have := hrb wf' (inv' v w' hprom) D' (a'.put o.dst v) hD2 nd clo' (lag' v)
      simpa using this
    · rename_i hw
      rw [if_neg hw] at hst
      refine ⟨fun _ _ => trivial, ?_⟩
      -- nothing is promised of the readers: the world is the same one
      have := hst wf' (inv' undef w fun i hi u d h1 h2 => by
        obtain ⟨f, u', d', h1', h2', h3'⟩ := inv.2 i (hsr i hi)
        rw [h1] at h1'; cases h1'
        rw [h2] at h2'; cases h2'
        obtain ⟨_, k2⟩ := apart i (List.mem_append_right _ hi)
        exact h3'.of_same ops hsel fun q hq t ht => k2 q hq t ht undef) D' (a'.put o.dst undef) hD2 nd clo' (lag' undef)
      simpa using this
  · exfalso
    cases rs with
    | nil => exact hne rfl
    | cons k _ =>
      have hk : k ∈ readyOf ops L := by rw [hr]; simp
      unfold readyOf at hk
      simp at hk
      exact hno k hk.1 hk.2.1 hk.2.2
end rules
end draw
end Go.Sl
