/- Function values; ranges over functions; returns behind them. -/
import Derived.Test.YtnignhaamlmelaaGreatDoorSl8
import Derived.RangeFuncCalls
import Derived.RangeFuncNested
namespace Go.Sl
open Go

/-! ### Calls of function values -/
def callV (fv : Value) (args : List Value) : Sem Next := do
  let d ← Deferred.ofValue fv args.toArray
  invoke d.target d.args
/-- The contract of a function value at these arguments. -/
def Cv (P : Program) (fv : Value) (args : List Value) (Pre : List SP) (Q : Value → List SP → Prop) : Prop :=
  ∀ (R : List SP) (w : World), Sat (Pre ++ R) (heapOf w) → op1U P (fun v w' => ∃ L, Q v L ∧ Sat (L ++ R) (heapOf w')) ((callV fv args).run P w)
theorem Cv.mono {P : Program} {fv : Value} {args : List Value} {Pre : List SP} {Q Q' : Value → List SP → Prop} (h : Cv P fv args Pre Q) (k : ∀ v L, Q v L → Q' v L) : Cv P fv args Pre Q' :=
  fun R w s => (h R w s).mono fun _ _ ⟨L, q, s'⟩ => ⟨L, k _ _ q, s'⟩
theorem Cv.of_ct {P : Program} {f : FuncId} {us cs args : List Value} {Pre : List SP} {Q : Value → List SP → Prop} [hf : TFun P f] (C : Ct P f (us ++ (args ++ cs)) Pre Q) : Cv P (.func (.func f) us.toArray cs.toArray) args Pre Q := fun R w s => by
  have : (callV (.func (.func f) us.toArray cs.toArray) args).run P w = .ok (.enter f (us ++ (args ++ cs)).toArray) w := by
    simp [callV, Deferred.ofValue, invoke, run_callFunc hf]
  rw [this]
  exact (C R w s).mono fun e w' ⟨v, L, h1, h2, h3⟩ => ⟨v, h1, L, h2, h3⟩

section
variable {P : Program} {r : Option Nat} {ops : Array Oper} {K : Ko} {p p' : Plan} {n : Nat} {m m' : List (Nat × Value)} {ds : List Deferred} {H R : List SP}

theorem r_cv {fv : Value} {args : List Value} {d : Option Nat} {k : Nat} {y : Operand} {xs : Array Operand} {ts : Array TypeId} {Pre : List SP} {Q : Value → List SP → Prop} (C : Cv P fv args Pre Q)
    (q : ∀ v L, Q v L → Run P r ops K p' ⟨n, putM d v m, ds⟩ (L ++ R))
    (h : stepM ops p n m = some (d, .call ⟨.value y, xs, ts⟩, k, p') := by rfl) (hy : Env.ev ⟨n, m, []⟩ y = some fv := by rfl) (hx : evs ⟨n, m, []⟩ xs.toList = some args := by rfl)
    (hF : Frm H Pre R := by repeat (first | exact Frm.nil _ | apply Frm.cons | exact Sel.here _ _ | apply Sel.there))
    (hk : Nat.ble 2 k = true := by rfl) : Run P r ops K p ⟨n, m, ds⟩ H := by
  rw [ev_ds (ds := ds)] at hy
  rw [evs_ds (ds := ds)] at hx
  exact act_of (N := fun v H' => ∃ L, H' = L ++ R ∧ Q v L) h hk (fun o ho a w ha hs => by
    unfold op1
    rw [Oper.semAt_eq _ _ _ (by simp [ho])]
    have e1 : (execOp a.eval o) = callV fv args := by
      simp [execOp, ho, resolve, ha.ev hy, ha.evsA hx, callV]
    rw [e1]
    exact (C R w (hF.ent _ hs)).mono fun v w' ⟨L, h2, h3⟩ => ⟨_, ⟨L, rfl, h2⟩, h3⟩) fun v H' ⟨L, e, hq⟩ => by subst e; exact q v L hq

/-! ### Ranges over functions -/
/-- the loop's record: l its block, D the block for the rounds' deferred calls -/
def lpR (l D : Nat) (st : LoopState) (pend : Option Code) (n : Nat) (m : List (Nat × Value)) (ps : Array Tmp) (assign body : Code) : SP := ex fun g : FuncId × Array Value =>
  grp [pu (g.2.size = n ∧ ∀ t v, lk m t = some v → g.2[t]? = some v), pt l (.loop { state := st, pending := pend, fn := g.1, tmps := g.2, params := ps, assign, body, defers := D })]
theorem lp_open {l D : Nat} {st : LoopState} {pend : Option Code} {ps : Array Tmp} {assign body : Code} {h : Hp} (s : Sat (lpR l D st pend n m ps assign body :: R) h) :
    ∃ fn tmps, tmps.size = n ∧ (∀ t v, lk m t = some v → tmps[t]? = some v) ∧ Sat (pt l (.loop { state := st, pending := pend, fn, tmps, params := ps, assign, body, defers := D }) :: R) h := by
  obtain ⟨⟨fn, tmps⟩, s⟩ := ent_open (A := fun g : FuncId × Array Value => [pu (g.2.size = n ∧ ∀ t v, lk m t = some v → g.2[t]? = some v), pt l (.loop { state := st, pending := pend, fn := g.1, tmps := g.2, params := ps, assign, body, defers := D })]) h s
  obtain ⟨⟨h1, h2⟩, s⟩ := Sat.pu_elim s
  exact ⟨fn, tmps, h1, h2, s⟩
theorem lp_shut {l D : Nat} {st : LoopState} {pend : Option Code} {ps : Array Tmp} {assign body : Code} {h : Hp} {fn : FuncId} {tmps : Array Value} (h1 : tmps.size = n) (h2 : ∀ t v, lk m t = some v → tmps[t]? = some v)
    (s : Sat (pt l (.loop { state := st, pending := pend, fn, tmps, params := ps, assign, body, defers := D }) :: R) h) : Sat (lpR l D st pend n m ps assign body :: R) h :=
  ent_shut (A := fun g : FuncId × Array Value => [pu (g.2.size = n ∧ ∀ t v, lk m t = some v → g.2[t]? = some v), pt l (.loop { state := st, pending := pend, fn := g.1, tmps := g.2, params := ps, assign, body, defers := D })]) (fn, tmps) h (Sat.pu_intro ⟨h1, h2⟩ s)

theorem sat_put {l : Nat} {o o' : Obj} {w : World} (s : Sat (pt l o :: R) (heapOf w)) : Sat (pt l o' :: R) (heapOf (w.putObj l o')) := by
  have h0 : w.heap[l]? = some o := Sat.pt_get s
  refine Sat.pt_set s (World.putObj_heap_same (Array.getElem?_eq_some_iff.1 h0).1) fun x hx => World.putObj_heap_other hx

/-- what is asked at a round's end -/
def Kround (P : Program) (l : Nat) (R : List SP) (Q : Value → List SP → Prop) : Kt := roundPost P l fun e w' => ∃ v, e = .returned v ∧ ∃ L, Q v L ∧ Sat (L ++ R) (heapOf w')
/-- the loop's variables have been set: the round begins -/
def Kasg (P : Program) (l : Nat) (body : Code) (K : Kt) : Kt := Exit.then (fun a w => ∃ w2, (Instr.beginRound l).run P w = .ok () w2 ∧ body.wpIn (Fw (some l)) 0 P K a w2) fun _ _ _ => False

/-- yield's parameters -/
def prmEnv : List Tmp → List Value → List (Nat × Value) → Option (List (Nat × Value))
  | [], [], m => some m
  | t :: ts, v :: vs, m => prmEnv ts vs ((t, v) :: m)
  | _, _, _ => none
theorem prmEnv_len : ∀ (ts : List Tmp) (vs : List Value) (m m' : List (Nat × Value)), prmEnv ts vs m = some m' → vs.length = ts.length
  | [], [], _, _, _ => rfl
  | t :: ts, v :: vs, m, m', h => by simp [prmEnv_len ts vs _ _ h]
  | [], _ :: _, _, _, h => by simp [prmEnv] at h
  | _ :: _, [], _, _, h => by simp [prmEnv] at h
theorem prmEnv_agree {n : Nat} : ∀ (ts : List Tmp) (vs : List Value) (m m' : List (Nat × Value)) (tmps : Array Value), prmEnv ts vs m = some m' → ts.all (Nat.blt · n) = true → tmps.size = n → (∀ t v, lk m t = some v → tmps[t]? = some v) →
    let tmps' := (ts.zip vs).foldl (fun tmps (x : Tmp × Value) => tmps.setIfInBounds x.1 x.2) tmps
    tmps'.size = n ∧ ∀ t v, lk m' t = some v → tmps'[t]? = some v
  | [], [], m, m', tmps, h, _, h1, h2 => by simp [prmEnv] at h; subst h; exact ⟨h1, h2⟩
  | t :: ts, v :: vs, m, m', tmps, h, hb, h1, h2 => by
    simp only [List.all_cons, Bool.and_eq_true] at hb
    have hA : Agree ⟨n, m, []⟩ { tmps := tmps, defers := [] } := ⟨h1, h2, rfl⟩
    have hA' := hA.set (d := t) hb.1 v
    exact prmEnv_agree ts vs ((t, v) :: m) m' (tmps.setIfInBounds t v) (by simpa [prmEnv] using h) hb.2 hA'.size hA'.val
  | [], _ :: _, _, _, _, h, _, _, _ => by simp [prmEnv] at h
  | _ :: _, [], _, _, _, h, _, _, _ => by simp [prmEnv] at h

/-- Yield's contract, from the round's walk: first the loop's variables are set, then the round begins, then the body. -/
def IsLp (LP : LoopState → Option Code → SP) (l D n : Nat) (m : List (Nat × Value)) (ps : Array Tmp) (assign body : Code) : Prop := ∀ st pend, LP st pend = lpR l D st pend n m ps assign body
theorem cv_yield {LP : LoopState → Option Code → SP} {l D : Nat} {ps : Array Tmp} {assign body : Code} {args : List Value} {J : List SP} {Q : Value → List SP → Prop} {m' : List (Nat × Value)}
    (hLP : IsLp LP l D n m ps assign body) (h : ∀ R, Ex P (some l) assign (.sem (Kasg P l body (Kround P l R Q))) ⟨n, m', []⟩ (LP .ready none :: (J ++ R)))
    (hm : prmEnv ps.toList args m = some m' := by rfl) (hb : ps.toList.all (Nat.blt · n) = true := by rfl) : Cv P (.func (.yield l) #[] #[]) args (LP .ready none :: J) Q := fun R w s => by
  have s' := s
  rw [hLP] at s'
  obtain ⟨fn, tmps, h1, h2, s2⟩ := lp_open s'
  have hget : w.heap[l]? = some (.loop { state := .ready, pending := none, fn, tmps, params := ps, assign, body, defers := D }) := Sat.pt_get s2
  have hlen : args.toArray.size = ps.size := by have := prmEnv_len _ _ _ _ hm; simpa using this
  have hrun : (callV (.func (.yield l) #[] #[]) args).run P w = .ok (.round l fn ((ps.zip args.toArray).foldl (fun tmps (x : Tmp × Value) => tmps.setIfInBounds x.1 x.2) tmps) assign body) w := by
    simp [callV, Deferred.ofValue, invoke, run_yield hget hlen]
  rw [hrun]
  have hA := prmEnv_agree ps.toList args m m' tmps hm hb h1 h2
  have e1 : (ps.zip args.toArray).foldl (fun tmps (x : Tmp × Value) => tmps.setIfInBounds x.1 x.2) tmps = (ps.toList.zip args).foldl (fun tmps (x : Tmp × Value) => tmps.setIfInBounds x.1 x.2) tmps := by
    rw [← Array.foldl_toList, Array.toList_zip]
  rw [e1]
  refine roundIn_of_wpIn (F := Fw none) (l := l) trivial ?_
  exact (h R { tmps := (ps.toList.zip args).foldl (fun tmps (x : Tmp × Value) => tmps.setIfInBounds x.1 x.2) tmps, defers := [] } w ⟨hA.1, hA.2, rfl⟩ s).wpIn

theorem e_begin {LP : LoopState → Option Code → SP} {l D : Nat} {body : Code} {Kr : Kt} {e : Env} {n0 : Nat} {m0 : List (Nat × Value)} {ps : Array Tmp} {assign bd : Code} (hLP : IsLp LP l D n0 m0 ps assign bd) (hs : Sel H (LP .ready none) R) (q : Ex P (some l) body (.sem Kr) e (LP .busy none :: R)) :
    Ex P (some l) .skip (.sem (Kasg P l body Kr)) e H := fun a w ha hS => by
  rw [hLP] at *
  obtain ⟨fn, tmps, h1, h2, s2⟩ := lp_open (hs.ent _ hS)
  have hget := Sat.pt_get s2
  have hb := run_beginRound (P := P) (w := w) (l := l) hget rfl
  exact ⟨_, hb, (q a _ ha (lp_shut h1 h2 (sat_put s2))).wpIn⟩
theorem e_rnext {LP : LoopState → Option Code → SP} {l D : Nat} {Q : Value → List SP → Prop} {e : Env} {n0 : Nat} {m0 : List (Nat × Value)} {ps : Array Tmp} {assign bd : Code} {R0 : List SP} (hLP : IsLp LP l D n0 m0 ps assign bd) (hs : Sel H (LP .busy none) R0) (q : ∃ L, Q (.bool true) L ∧ Ent (LP .ready none :: R0) (L ++ R)) :
    Ex P (some l) .skip (.sem (Kround P l R Q)) e H := fun a w ha hS => by
  rw [hLP] at *
  obtain ⟨fn, tmps, h1, h2, s2⟩ := lp_open (hs.ent _ hS)
  have hget := Sat.pt_get s2
  have hb := run_endRound (P := P) (w := w) (l := l) none hget
  obtain ⟨L, hq, hE⟩ := q
  exact ⟨_, _, hb, _, rfl, L, hq, hE _ (lp_shut h1 h2 (sat_put s2))⟩
/-- a jump out of a round -/
def isJump : Code → Bool
  | .ret => true
  | .exit _ => true
  | _ => false
theorem e_rexit {LP : LoopState → Option Code → SP} {c : Code} {l D : Nat} {Q : Value → List SP → Prop} {e : Env} {n0 : Nat} {m0 : List (Nat × Value)} {ps : Array Tmp} {assign bd : Code} {R0 : List SP} (hLP : IsLp LP l D n0 m0 ps assign bd) (hs : Sel H (LP .busy none) R0)
    (q : ∃ L, Q (.bool false) L ∧ Ent (LP .done (some c) :: R0) (L ++ R)) (hc : isJump c = true := by rfl) :
    Ex P (some l) c (.sem (Kround P l R Q)) e H := fun a w ha hS => by
  rw [hLP] at *
  obtain ⟨fn, tmps, h1, h2, s2⟩ := lp_open (hs.ent _ hS)
  have hget := Sat.pt_get s2
  have hb := run_endRound (P := P) (w := w) (l := l) (some c) hget
  obtain ⟨L, hq, hE⟩ := q
  cases c with
  | ret => exact ⟨_, _, hb, _, rfl, L, hq, hE _ (lp_shut h1 h2 (sat_put s2))⟩
  | exit id => exact ⟨_, _, hb, _, rfl, L, hq, hE _ (lp_shut h1 h2 (sat_put s2))⟩
  | _ => cases hc

/-- behind the iterator: the record isn't busy; the jump that a round has left, if any, is what comes -/
def Aft (P : Program) (r : Option Nat) (K : Ko) (LP : LoopState → Option Code → SP) (e' : Env) (H : List SP) : Prop :=
  ∀ h, Sat H h → ∃ st pend R, st ≠ LoopState.busy ∧ Sat (LP st pend :: R) h ∧ Ex P r (match pend with | none => .skip | some c => c) K e' R

theorem rf_core {g : Operand} {ps : Array Tmp} {assign body : Code} {e : Env} {f : FuncId} {us cs : List Value} [hf : TFun P f] (hg : e.ev g = some (.func (.func f) us.toArray cs.toArray))
    (h : ∀ a w fn, Agree e a → Sat H (heapOf w) → ∃ l D mark w1 LP e', IsLp LP l D e.n e.m ps assign body ∧ (Instr.enterLoop fn a.tmps ps assign body r).run P w = .ok (l, mark) w1 ∧ e' = ⟨e.n, e.m, mark ++ e.ds⟩ ∧
      ∃ Pre Q R, Ct P f (us ++ ([.func (.yield l) #[] #[]] ++ cs)) Pre Q ∧ Sat (Pre ++ R) (heapOf w1) ∧ ∀ v L, Q v L → Aft P r K LP e' (L ++ R)) : Ex P r (.rangeFunc g ps assign body) K e H := fun a w ha hs => by
  show (Code.rangeFunc g ps assign body).wpIn (Fw r) 0 P (K.den P r) a w
  refine wpIn_rangeFunc fun fn _ => ?_
  obtain ⟨l, D, mark, w1, LP, e', hLP, he, hee, Pre, Q, R, C, hS, hA⟩ := h a w fn ha hs
  have hres : (resolve a.eval (rangeCall g l) 0).run P w1 = .ok { target := .fn (.func f) cs.toArray, args := us.toArray ++ #[.func (.yield l) #[] #[]] } w1 := by
    have h1 := ha.ev hg
    have h2 : a.eval (.const (.func (.yield l) #[] #[])) = .func (.yield l) #[] #[] := rfl
    simp [resolve, h1, h2, Deferred.ofValue]
  have hinv : (invoke (Target.fn (Fn.func f) cs.toArray) (us.toArray ++ #[Value.func (.yield l) #[] #[]])).run P w1 = .ok (.enter f (us ++ ([Value.func (.yield l) #[] #[]] ++ cs)).toArray) w1 := by
    simp [invoke, run_callFunc hf]
  refine ⟨l, mark, w1, _, w1, f, _, w1, he, hres, fun _ _ => trivial, hinv, fun e => (by cases e), ?_⟩
  have hC := C R w1 hS
  have hpost : CallsIn (Fw none) 0 P f (us ++ ([Value.func (.yield l) #[] #[]] ++ cs)).toArray w1 (rangePost (Fw r) 0 P l (K.den P r) { a with defers := mark ++ a.defers }) := hC.mono fun en w3 ⟨v, L, h1, h2, h3⟩ => by
    subst h1
    obtain ⟨st, pend, R', hst, hsel, hex⟩ := hA v L h2 _ h3
    rw [hLP] at hsel
    obtain ⟨fn', tmps, g1, g2, s2⟩ := lp_open hsel
    have hget := Sat.pt_get s2
    have hend := run_endLoop (P := P) (w := w3) (l := l) hget hst
    have hag : Agree e' { a with defers := mark ++ a.defers } := by
      rw [hee]; exact ⟨ha.size, ha.val, by simp [ha.ds]⟩
    have hE := (hex _ _ hag (Sat.tail (sat_put (o' := .loop { state := .exhausted, pending := pend, fn := fn', tmps, params := ps, assign, body, defers := D }) s2))).wpIn
    refine ⟨pend, _, hend, ?_⟩
    cases pend with
    | none => exact hex _ _ hag (Sat.tail (sat_put s2))
    | some c => exact hE
  cases r with
  | none => exact hpost
  | some l0 => exact CallsIn.inRound l0 hpost

/-- the block for the rounds' deferred calls, of which there are none; its mark -/
def df (D : Nat) : SP := pt D (.deferred (some []))
def mk (D : Nat) : Deferred := { target := .collected D, args := #[] }
/-- what a range over a function asks: the iterator's contract, and what comes behind it -/
def Rf (P : Program) (r : Option Nat) (K : Ko) (LP : LoopState → Option Code → SP) (f : FuncId) (args : List Value) (e' : Env) (H : List SP) : Prop :=
  ∃ Pre Q R, Ct P f args Pre Q ∧ Ent H (Pre ++ R) ∧ ∀ v L, Q v L → Aft P r K LP e' (L ++ R)
theorem rf_mk {LP : LoopState → Option Code → SP} {f : FuncId} {args : List Value} {e' : Env} {Pre : List SP} {Q : Value → List SP → Prop} (R : List SP) (C : Ct P f args Pre Q) (hF : Ent H (Pre ++ R)) (q : ∀ v L, Q v L → Aft P r K LP e' (L ++ R)) : Rf P r K LP f args e' H := ⟨Pre, Q, R, C, hF, q⟩

/-- an outermost loop -/
theorem e_rf0 {g : Operand} {ps : Array Tmp} {assign body : Code} {f : FuncId} {us cs : List Value} [hf : TFun P f]
    (h : ∀ l D LP, IsLp LP l D n m ps assign body → Rf P none K LP f (us ++ ([.func (.yield l) #[] #[]] ++ cs)) ⟨n, m, mk D :: ds⟩ (LP .ready none :: df D :: H))
    (hg : Env.ev ⟨n, m, ds⟩ g = some (.func (.func f) us.toArray cs.toArray) := by rfl) : Ex P none (.rangeFunc g ps assign body) K ⟨n, m, ds⟩ H :=
  rf_core hg fun a w fn ha hs => by
    have he := run_enterLoop_outer (P := P) (w := w) fn a.tmps ps assign body
    refine ⟨w.heap.size + 1, w.heap.size, _, _, fun st pend => lpR (w.heap.size + 1) w.heap.size st pend n m ps assign body, ⟨n, m, mk w.heap.size :: ds⟩, fun _ _ => rfl, he, rfl, ?_⟩
    obtain ⟨Pre, Q, R, C, hF, q⟩ := h (w.heap.size + 1) w.heap.size (fun st pend => lpR (w.heap.size + 1) w.heap.size st pend n m ps assign body) fun _ _ => rfl
    refine ⟨Pre, Q, R, C, hF _ ?_, q⟩
    have s1 : Sat (df w.heap.size :: H) (heapOf (w.alloc (.deferred (some [])))) := sat_alloc hs
    have s2 := sat_alloc (o := .loop { state := .ready, pending := none, fn, tmps := a.tmps, params := ps, assign, body, defers := w.heap.size }) s1
    rw [World.size_alloc] at s2
    exact lp_shut ha.size ha.val s2

/-- a loop within a round -/
theorem e_rf1 {l0 D0 n0 : Nat} {m0 : List (Nat × Value)} {ps0 : Array Tmp} {as0 bd0 : Code} {LP0 : LoopState → Option Code → SP} {H1 : List SP} {st0 : LoopState} {pd0 : Option Code}
    {g : Operand} {ps : Array Tmp} {assign body : Code} {f : FuncId} {us cs : List Value} [hf : TFun P f] (h0 : IsLp LP0 l0 D0 n0 m0 ps0 as0 bd0) (hs0 : Sel H (LP0 st0 pd0) H1)
    (h : ∀ l D LP, IsLp LP l D n m ps assign body → Rf P (some l0) K LP f (us ++ ([.func (.yield l) #[] #[]] ++ cs)) ⟨n, m, ds⟩ (LP .ready none :: H))
    (hg : Env.ev ⟨n, m, ds⟩ g = some (.func (.func f) us.toArray cs.toArray) := by rfl) : Ex P (some l0) (.rangeFunc g ps assign body) K ⟨n, m, ds⟩ H :=
  rf_core hg fun a w fn ha hs => by
    have hL := hs0.ent _ hs
    rw [h0] at hL
    obtain ⟨fn0, tmps0, g1, g2, s0⟩ := lp_open hL
    have he := run_enterLoop_inner (P := P) (w := w) (Sat.pt_get s0) fn a.tmps ps assign body
    refine ⟨w.heap.size, D0, _, _, fun st pend => lpR w.heap.size D0 st pend n m ps assign body, ⟨n, m, ds⟩, fun _ _ => rfl, he, rfl, ?_⟩
    obtain ⟨Pre, Q, R, C, hF, q⟩ := h w.heap.size D0 (fun st pend => lpR w.heap.size D0 st pend n m ps assign body) fun _ _ => rfl
    refine ⟨Pre, Q, R, C, hF _ ?_, q⟩
    exact lp_shut ha.size ha.val (sat_alloc (o := .loop { state := .ready, pending := none, fn, tmps := a.tmps, params := ps, assign, body, defers := D0 }) hs)

/-- behind the iterator, no round has jumped -/
theorem aft_end {LP : LoopState → Option Code → SP} {e' : Env} (st : LoopState) (hs : Sel H (LP st none) R) (q : Ex P r .skip K e' R) (hst : st ≠ .busy := by decide) : Aft P r K LP e' H := fun h s => ⟨st, none, R, hst, hs.ent h s, q⟩
theorem aft_jump {LP : LoopState → Option Code → SP} {e' : Env} (c : Code) (hs : Sel H (LP .done (some c)) R) (q : Ex P r c K e' R) : Aft P r K LP e' H := fun h s => ⟨.done, some c, R, by decide, hs.ent h s, q⟩
theorem Aft.ent {LP : LoopState → Option Code → SP} {e' : Env} {H' : List SP} (h : Aft P r K LP e' H') (k : Ent H H') : Aft P r K LP e' H := fun x s => h x (k x s)
theorem Aft.rep {X : Sort _} {φ : X → Prop} {L : X → List SP} {A : List SP} {LP : LoopState → Option Code → SP} {e' : Env} (h : ∀ x, φ x → Aft P r K LP e' (L x ++ A)) : Aft P r K LP e' (Sl.rep φ L :: A) := fun y s => by
  obtain ⟨x, hx, s⟩ := rep_open y s
  exact h x hx y s

/-- at a body's end: the mark of a range is come to -/
theorem e_mark {c : Code} {fn : Func} {rs : List ResultVar} {R0 : List SP} {Q : Value → List SP → Prop} {D : Nat} (hs : Sel H (df D) R) (q : Ex P none c (.sem (Kt.body P fn rs R0 Q)) ⟨n, m, ds⟩ R) (hc : isEnd c = true := by rfl) :
    Ex P none c (.sem (Kt.body P fn rs R0 Q)) ⟨n, m, mk D :: ds⟩ H := fun a w ha hS => by
  have hS' := hs.ent _ hS
  have hget : w.heap[D]? = some (.deferred (some [])) := Sat.pt_get hS'
  have ht := run_takeDeferred (P := P) (w := w) hget
  have hq := q { a with defers := ds } (w.putObj D (.deferred none)) ⟨ha.size, ha.val, rfl⟩ (Sat.tail (sat_put (o' := .deferred none) hS'))
  have key : ∀ x : Exit, x = .ret ∨ x = .normal → Kt.body P fn rs R0 Q x { a with defers := ds } (w.putObj D (.deferred none)) → Kt.body P fn rs R0 Q x a w := by
    intro x hx hb hrs
    have h1 := hb hrs
    have h2 : LeavesInM (Fw none) 0 P fn a.tmps (fun e w' => ∃ v L, e = .returned v ∧ Q v L ∧ Sat (L ++ R0) (heapOf w')) ds .returning (w.putObj D (.deferred none)) := by
      rcases hx with rfl | rfl <;> exact h1
    have h3 : LeavesInM (Fw none) 0 P fn a.tmps (fun e w' => ∃ v L, e = .returned v ∧ Q v L ∧ Sat (L ++ R0) (heapOf w')) (mk D :: ds) .returning w :=
      ⟨by simp, .inl ⟨D, _, rfl, ht, h2⟩⟩
    have h4 : a.defers = mk D :: ds := ha.ds
    rcases hx with rfl | rfl <;> (show LeavesInM _ _ _ _ _ _ a.defers _ _; rw [h4]; exact h3)
  cases c with
  | ret => exact key .ret (.inl rfl) hq
  | skip => exact key .normal (.inr rfl) hq
  | _ => cases hc
/-- behind a call of whatever results: what is known, written out -/
theorem r_nm {d : Option Nat} {v : Value} {L M : List SP} (q : Run P r ops K p ⟨n, m', ds⟩ M) (hm : putO d v m = some m' := by rfl) (h : app L R = some M := by rfl) : Run P r ops K p ⟨n, putM d v m, ds⟩ (L ++ R) := by
  rw [app_eq L R M h, putO_eq hm]; exact q
/-- what is told of a ghost is opened ahead of a function value's contract -/
theorem Cv.rep {X : Sort _} {φ : X → Prop} {L : X → List SP} {A : List SP} {fv : Value} {args : List Value} {Q : Value → List SP → Prop} (h : ∀ x, φ x → Cv P fv args (L x ++ A) Q) : Cv P fv args (Sl.rep φ L :: A) Q := fun R w s => by
  obtain ⟨x, hx, s⟩ := rep_open _ s
  exact h x hx R w (by rw [List.append_assoc]; exact s)
theorem Cv.ent {Pre Pre' : List SP} {fv : Value} {args : List Value} {Q : Value → List SP → Prop} (h : Cv P fv args Pre' Q) (k : ∀ R, Ent (Pre ++ R) (Pre' ++ R)) : Cv P fv args Pre Q := fun R w s => h R w (k R _ s)
end
end Go.Sl
