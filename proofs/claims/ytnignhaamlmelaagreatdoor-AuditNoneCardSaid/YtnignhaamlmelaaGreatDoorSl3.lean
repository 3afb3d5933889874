/- The judgement on what is left of a region ('Run'): a plan says which operation comes next and how quiet it must be; a plan that is checked by computing serves every order that the region's edges allow. -/
import Derived.Test.YtnignhaamlmelaaGreatDoorSl2
namespace Go.Sl
open Go

/-- A drawn region's plan. one: operation i, 0 pure, 1 it reads, else it acts; prm: i acts, and the readers js, which may come behind it, would read the same; alt: i and j act, in either order (js: as above). -/
inductive Tr
  | done
  | one (i k : Nat) (t : Tr)
  | prm (i : Nat) (js : List Nat) (t : Tr)
  | alt (i : Nat) (js1 : List Nat) (t1 : Tr) (j : Nat) (js2 : List Nat) (t2 : Tr)
  deriving DecidableEq
/-- what is left of a region: of one in the text's order the operations; or a plan -/
inductive Plan
  | seq (l : List Oper)
  | tr (t : Tr)

/-- the i-th of a list, told whole -/
def lget {α : Type} : List α → Nat → Option α
  | [], _ => none
  | x :: _, 0 => some x
  | _ :: l, i + 1 => lget l i
theorem lget_eq {α : Type} : ∀ (l : List α) (i : Nat), lget l i = l[i]?
  | [], _ => by simp [lget]
  | _ :: _, 0 => by simp [lget]
  | _ :: l, i + 1 => by simp [lget, lget_eq l i]

/-- the next operation, and how quiet it must be -/
def next (ops : Array Oper) : Plan → Option (Oper × Nat × Plan)
  | .seq [] => none
  | .seq (o :: l) => some (o, 2, .seq l)
  | .tr (.one i k t) => match lget ops.toList i with
    | some o => some (o, k, .tr t)
    | none => none
  | .tr _ => none

section
variable (P : Program) (r : Option Nat) (ops : Array Oper) (K : Kt)
def okDsts (o : Oper) (a : Act) : Prop := ∀ d, o.dst = some d → d < a.tmps.size
def wp1 (o : Oper) (i k : Nat) (X : Act → World → Prop) (a : Act) (w : World) : Prop :=
  okDsts o a ∧
    ((k = 0 ∧ ∃ v, (∀ w, Yl ops P r i v a w) ∧ X (a.put o.dst v) w) ∨
     (k = 1 ∧ ∃ v, Yl ops P r i v a w ∧ X (a.put o.dst v) w) ∨
     (2 ≤ k ∧ (if Region.wanted o (yielded ops a.tmps) then op1 P r o a w fun v w' => X (a.put o.dst v) w' else X (a.put o.dst undef) w)))
/-- i acts, and the readers js would read the same behind it -/
def wpr (i : Nat) (js : List Nat) (X : Act → World → Prop) (a : Act) (w : World) : Prop := ∃ o, ops[i]? = some o ∧ okDsts o a ∧ Region.wanted o (yielded ops a.tmps) = true ∧
  op1 P r o a w fun v w' => (∀ j ∈ js, ∀ u d, dstOf ops j = some d → a.tmps[d]? = some u → Yl ops P r j u (a.put o.dst v) w') ∧ X (a.put o.dst v) w'
def wpL : List Oper → Act → World → Prop
  | [], a, w => K .normal a w
  | o :: l, a, w => wp1 P r ops o 0 2 (wpL l) a w
def wpT : Tr → Act → World → Prop
  | .done, a, w => K .normal a w
  | .one i k t, a, w => ∃ o, ops[i]? = some o ∧ wp1 P r ops o i k (wpT t) a w
  | .prm i js t, a, w => wpr P r ops i js (wpT t) a w
  | .alt i js1 t1 j js2 t2, a, w => wpr P r ops i js1 (wpT t1) a w ∧ wpr P r ops j js2 (wpT t2) a w
def wpP : Plan → Act → World → Prop
  | .seq l => wpL P r ops K l
  | .tr t => wpT P r ops K t
end

/-- the region's operations are told; what is to come behind is K -/
def Run (P : Program) (r : Option Nat) (ops : Array Oper) (K : Ko) (p : Plan) (e : Env) (H : List SP) : Prop :=
  ∀ a w, Agree e a → Sat H (heapOf w) → wpP P r ops (K.den P r) p a w

section
variable {P : Program} {r : Option Nat} {ops : Array Oper} {e : Env} {H : List SP}

theorem wp1.mono {o : Oper} {i k : Nat} {X Y : Act → World → Prop} {a : Act} {w : World} (h : wp1 P r ops o i k X a w) (f : ∀ a w, X a w → Y a w) : wp1 P r ops o i k Y a w := by
  obtain ⟨h0, ⟨h1, v, h2, h3⟩ | ⟨h1, v, h2, h3⟩ | ⟨h1, h2⟩⟩ := h
  · exact ⟨h0, .inl ⟨h1, v, h2, f _ _ h3⟩⟩
  · exact ⟨h0, .inr (.inl ⟨h1, v, h2, f _ _ h3⟩)⟩
  · refine ⟨h0, .inr (.inr ⟨h1, ?_⟩)⟩
    split
    · rename_i hw; rw [if_pos hw] at h2; exact h2.mono fun _ _ q => f _ _ q
    · rename_i hw; rw [if_neg hw] at h2; exact f _ _ h2

/-! ### A region in the text's order -/
theorem wpL_run {K : Kt} (all : List Oper) (hall : ops.toList = all) : ∀ (l pre : List Oper) (a : Act) (w : World), all = pre ++ l → wpL P r ops K l a w →
    wpOpsIn (Fw r) 0 P ops K (List.range' pre.length l.length) a w
  | [], _, _, _, _, h => h
  | o :: l, pre, a, w, e, h => by
    rw [List.length_cons, List.range'_succ]
    have ho : ops[pre.length]? = some o := by
      rw [← Array.getElem?_toList, hall, e]; simp
    have ih := fun a w => wpL_run (K := K) all hall l (pre ++ [o]) a w (by rw [e]; simp)
    simp only [List.length_append, List.length_cons, List.length_nil, Nat.zero_add] at ih
    obtain ⟨_, ⟨h, _⟩ | ⟨h, _⟩ | ⟨_, h⟩⟩ := h
    · cases h
    · cases h
    · unfold wpOpsIn
      rw [ho]
      simp only
      split
      · rename_i hw
        rw [if_pos hw] at h
        exact h.wpIn fun v w' q => ih _ _ q
      · rename_i hw
        rw [if_neg hw] at h
        exact ⟨fun _ _ => trivial, ih _ _ h⟩

theorem r_start {K : Ko} {id : Nat} (h : Run P r ops K (.seq ops.toList) e H) : Ex P r (.region id ops false) K e H := fun a w ha hs => by
  refine wpIn_region (Q := K.den P r) ?_
  have := wpL_run (P := P) (r := r) (K := K.den P r) ops.toList rfl ops.toList [] a w rfl (h a w ha hs)
  rw [List.range_eq_range']
  simpa using this

/-! ### A region that draws, by a plan -/
/-- may i act, with the readers js promised? -/
def prOk (ops : Array Oper) (Dp Dr : List Nat) (i : Nat) (js : List Nat) : Bool :=
  Dr.all (fun j => (ancs ops ops.size i).contains j || js.contains j) && js.all (Dr.contains ·) && !clash ops i ((Dp.filter fun j => !(ancs ops ops.size i).contains j) ++ js)
def planOk (ops : Array Oper) : List Nat → List Nat → List Nat → Tr → Bool
  | L, _, _, .done => (readyOf ops L).isEmpty
  | L, Dp, Dr, .one i k t =>
    match k with
    | 0 => !L.contains i && decide (i < ops.size) && (deps ops i).all (L.contains ·) && freshB ops i && planOk ops (i :: L) (i :: Dp) Dr t
    | 1 => !L.contains i && decide (i < ops.size) && (deps ops i).all (L.contains ·) && freshB ops i && planOk ops (i :: L) Dp (i :: Dr) t
    | _ =>
      let an := ancs ops ops.size i
      decide (readyOf ops L = [i]) && Dr.all (an.contains ·) && !clash ops i (Dp.filter fun j => !an.contains j) && planOk ops (i :: L) (Dp.filter fun j => !an.contains j) [] t
  | L, Dp, Dr, .prm i js t => decide (readyOf ops L = [i]) && prOk ops Dp Dr i js && planOk ops (i :: L) (Dp.filter fun j => !(ancs ops ops.size i).contains j) js t
  | L, Dp, Dr, .alt i js1 t1 j js2 t2 => decide (readyOf ops L = [i, j]) && prOk ops Dp Dr i js1 && prOk ops Dp Dr j js2 &&
      planOk ops (i :: L) (Dp.filter fun x => !(ancs ops ops.size i).contains x) js1 t1 && planOk ops (j :: L) (Dp.filter fun x => !(ancs ops ops.size j).contains x) js2 t2

theorem act_step {K : Kt} {L Dp : List Nat} {a : Act} {w : World} {i : Nat} {t : Tr} {o : Oper} (ho : ops[i]? = some o) (hd : okDsts o a)
    (h : if Region.wanted o (yielded ops a.tmps) then op1 P r o a w fun v w' => wpT P r ops K t (a.put o.dst v) w' else wpT P r ops K t (a.put o.dst undef) w)
    (Dr : List Nat) (h2 : Dr.all ((ancs ops ops.size i).contains ·) = true) (h3 : clash ops i (Dp.filter fun j => !(ancs ops ops.size i).contains j) = false)
    (k : ∀ a w, wpT P r ops K t a w → RB ops P r K (i :: L) (Dp.filter fun j => !(ancs ops ops.size i).contains j) [] a w) :
    ∃ o Dp' Dr', ops[i]? = some o ∧ (∀ x ∈ Dp ++ Dr, x ∉ ancs ops ops.size i → x ∈ Dp' ++ Dr') ∧ (∀ x ∈ Dp', x ∈ Dp) ∧ (∀ x ∈ Dr', x ∈ Dr) ∧ clash ops i (Dp' ++ Dr') = false ∧
      (∀ d, o.dst = some d → d < a.tmps.size) ∧
      (if Region.wanted o (yielded ops a.tmps) then op1 P r o a w fun v w' => (∀ x ∈ Dr', ∀ u d, dstOf ops x = some d → a.tmps[d]? = some u → Yl ops P r x u (a.put o.dst v) w') ∧ RB ops P r K (i :: L) Dp' Dr' (a.put o.dst v) w'
        else (RB ops P r K (i :: L) Dp' Dr' (a.put o.dst undef) w)) := by
  refine ⟨o, Dp.filter fun j => !(ancs ops ops.size i).contains j, [], ho, fun x hx hxn => ?_, fun x hx => (List.mem_filter.1 hx).1, fun x hx => (by cases hx), (by simpa using h3), hd, ?_⟩
  · rcases List.mem_append.1 hx with hx | hx
    · exact List.mem_append_left _ (List.mem_filter.2 ⟨hx, by simpa using hxn⟩)
    · exact absurd (by simpa using List.all_eq_true.1 h2 x hx) hxn
  · split
    · rename_i hw
      rw [if_pos hw] at h
      exact h.mono fun v w' q => ⟨fun i hi => (by cases hi), k _ _ q⟩
    · rename_i hw
      rw [if_neg hw] at h
      exact k _ _ h

theorem pr_step {K : Kt} {L Dp Dr : List Nat} {a : Act} {w : World} {i : Nat} {js : List Nat} {t : Tr} (hok : prOk ops Dp Dr i js = true) (h : wpr P r ops i js (wpT P r ops K t) a w)
    (k : ∀ a w, wpT P r ops K t a w → RB ops P r K (i :: L) (Dp.filter fun j => !(ancs ops ops.size i).contains j) js a w) :
    ∃ o Dp' Dr', ops[i]? = some o ∧ (∀ x ∈ Dp ++ Dr, x ∉ ancs ops ops.size i → x ∈ Dp' ++ Dr') ∧ (∀ x ∈ Dp', x ∈ Dp) ∧ (∀ x ∈ Dr', x ∈ Dr) ∧ clash ops i (Dp' ++ Dr') = false ∧
      (∀ d, o.dst = some d → d < a.tmps.size) ∧
      (if Region.wanted o (yielded ops a.tmps) then op1 P r o a w fun v w' => (∀ x ∈ Dr', ∀ u d, dstOf ops x = some d → a.tmps[d]? = some u → Yl ops P r x u (a.put o.dst v) w') ∧ RB ops P r K (i :: L) Dp' Dr' (a.put o.dst v) w'
        else (RB ops P r K (i :: L) Dp' Dr' (a.put o.dst undef) w)) := by
  unfold prOk at hok
  simp only [Bool.and_eq_true, Bool.not_eq_true', List.all_eq_true] at hok
  obtain ⟨⟨h2, h2'⟩, h3⟩ := hok
  obtain ⟨o, ho, hd, hw, h⟩ := h
  refine ⟨o, Dp.filter fun j => !(ancs ops ops.size i).contains j, js, ho, fun x hx hxn => ?_, fun x hx => (List.mem_filter.1 hx).1, fun x hx => by simpa using h2' x hx, (by simpa using h3), hd, ?_⟩
  · rcases List.mem_append.1 hx with hx | hx
    · exact List.mem_append_left _ (List.mem_filter.2 ⟨hx, by simpa using hxn⟩)
    · have := h2 x hx
      simp only [Bool.or_eq_true] at this
      rcases this with h | h
      · exact absurd (by simpa using h) hxn
      · exact List.mem_append_right _ (by simpa using h)
  · rw [if_pos hw]
    exact h.mono fun v w' ⟨q1, q2⟩ => ⟨q1, k _ _ q2⟩

theorem planOk_sound {K : Kt} (hsel : noSel ops = true) (hdl : depsLt ops = true) : ∀ (t : Tr) (L Dp Dr : List Nat) (a : Act) (w : World),
    planOk ops L Dp Dr t = true → wpT P r ops K t a w → RB ops P r K L Dp Dr a w
  | .done, L, Dp, Dr, a, w, hp, h => RB.done ops hsel hdl (by simpa [planOk] using hp) h
  | .one i 0 t, L, Dp, Dr, a, w, hp, h => by
    simp only [planOk, Bool.and_eq_true, Bool.not_eq_true', decide_eq_true_eq, List.all_eq_true] at hp
    obtain ⟨⟨⟨⟨h1, h2⟩, h3⟩, h4⟩, h5⟩ := hp
    simp only [wpT, wp1] at h
    obtain ⟨o, ho, hd, ⟨_, v, hy, hk⟩ | ⟨h, _⟩ | ⟨h, _⟩⟩ := h
    · obtain ⟨oi, d, hoi, hdi, _⟩ := fresh_spec ops h4
      rw [ho] at hoi; cases hoi
      exact RB.pure ops hsel (by simpa using h1) h2 (fun x hx => by simpa using h3 x hx) h4 (by unfold dstOf; simp [ho, hdi]) (hd d hdi) hy
        (planOk_sound hsel hdl t _ _ _ _ _ h5 (by rw [hdi] at hk; exact hk))
    · cases h
    · omega
  | .one i 1 t, L, Dp, Dr, a, w, hp, h => by
    simp only [planOk, Bool.and_eq_true, Bool.not_eq_true', decide_eq_true_eq, List.all_eq_true] at hp
    obtain ⟨⟨⟨⟨h1, h2⟩, h3⟩, h4⟩, h5⟩ := hp
    simp only [wpT, wp1] at h
    obtain ⟨o, ho, hd, ⟨h, _⟩ | ⟨_, v, hy, hk⟩ | ⟨h, _⟩⟩ := h
    · cases h
    · obtain ⟨oi, d, hoi, hdi, _⟩ := fresh_spec ops h4
      rw [ho] at hoi; cases hoi
      exact RB.read ops hsel (by simpa using h1) h2 (fun x hx => by simpa using h3 x hx) h4 (by unfold dstOf; simp [ho, hdi]) (hd d hdi) hy
        (planOk_sound hsel hdl t _ _ _ _ _ h5 (by rw [hdi] at hk; exact hk))
    · omega
  | .one i (k + 2) t, L, Dp, Dr, a, w, hp, h => by
    simp only [planOk, Bool.and_eq_true, Bool.not_eq_true', decide_eq_true_eq] at hp
    obtain ⟨⟨⟨h1, h2⟩, h3⟩, h5⟩ := hp
    simp only [wpT, wp1] at h
    obtain ⟨o, ho, hd, ⟨h, _⟩ | ⟨h, _⟩ | ⟨_, h⟩⟩ := h
    · cases h
    · omega
    · refine RB.act ops hsel hdl (rs := [i]) (by simp) h1 fun k hk => ?_
      have : k = i := by simpa using hk
      subst this
      exact act_step ho hd h Dr h2 h3 fun a w q => planOk_sound hsel hdl t _ _ _ _ _ h5 q
  | .prm i js t, L, Dp, Dr, a, w, hp, h => by
    simp only [planOk, Bool.and_eq_true, decide_eq_true_eq] at hp
    obtain ⟨⟨h1, h2⟩, h5⟩ := hp
    refine RB.act ops hsel hdl (rs := [i]) (by simp) h1 fun k hk => ?_
    have : k = i := by simpa using hk
    subst this
    exact pr_step h2 h fun a w q => planOk_sound hsel hdl t _ _ _ _ _ h5 q
  | .alt i js1 t1 j js2 t2, L, Dp, Dr, a, w, hp, h => by
    simp only [planOk, Bool.and_eq_true, decide_eq_true_eq] at hp
    obtain ⟨⟨⟨⟨h1, h2⟩, h3⟩, h6⟩, h7⟩ := hp
    refine RB.act ops hsel hdl (rs := [i, j]) (by simp) h1 fun k hk => ?_
    have : k = i ∨ k = j := by simpa using hk
    rcases this with rfl | rfl
    · exact pr_step h2 h.1 fun a w q => planOk_sound hsel hdl t1 _ _ _ _ _ h6 q
    · exact pr_step h3 h.2 fun a w q => planOk_sound hsel hdl t2 _ _ _ _ _ h7 q

def drawOk (ops : Array Oper) (t : Tr) : Bool := noSel ops && depsLt ops && planOk ops [] [] [] t

theorem rb_start {K : Ko} {id : Nat} (hm : P.follows .mixedOrders = true) (h : ∀ a w, Agree e a → Sat H (heapOf w) → RB ops P r (K.den P r) [] [] [] a w) : Ex P r (.region id ops true) K e H := fun a w ha hs => by
  refine wpIn_region_any (Q := K.den P r) hm ?_
  have := h a { w with drawn := w.drawn + 1 } ha hs ⟨by simp, fun j hj => (by cases hj), fun j hj => (by cases hj), fun j hj => (by cases hj)⟩
    ⟨fun i hi => (by cases hi), fun i hi => (by cases hi)⟩ [] a (fun i hi => (by cases hi)) (by simp) (fun j hj => (by cases hj)) ⟨rfl, rfl, fun _ _ => rfl⟩
  have e1 : lst ops [] [] = Array.replicate ops.size false := by
    unfold lst; apply Array.ext_getElem?; intro j
    by_cases h : j < ops.size <;> simp [h]
  rw [e1] at this
  simpa using this

/-- the program's regions may go in mixed orders -/
class TMix (P : Program) : Prop where
  out : P.follows .mixedOrders = true

theorem r_draw [hm : TMix P] {K : Ko} {id : Nat} (t : Tr) (hok : drawOk ops t = true) (h : Run P r ops K (.tr t) e H) : Ex P r (.region id ops true) K e H := by
  unfold drawOk at hok
  simp only [Bool.and_eq_true] at hok
  exact rb_start hm.out fun a w ha hs => planOk_sound hok.1.1 hok.1.2 t _ _ _ _ _ hok.2 (h a w ha hs)

/-! ### The steps -/
variable {K : Ko}
theorem Run.ent {p : Plan} {H' : List SP} (h : Run P r ops K p e H') (k : Ent H H') : Run P r ops K p e H := fun a w ha hs => h a w ha (k _ hs)
theorem Run.weak {p : Plan} {e' : Env} (h : Run P r ops K p e' H) (k : e.le e') : Run P r ops K p e H := fun a w ha hs => h a w (ha.weak k) hs

theorem next_spec {p p' : Plan} {o : Oper} {k : Nat} (hn : next ops p = some (o, k, p')) {K : Kt} {a : Act} {w : World}
    (h : ∀ i, (k ≤ 1 → ops[i]? = some o) → wp1 P r ops o i k (wpP P r ops K p') a w) : wpP P r ops K p a w := by
  cases p with
  | seq l =>
    cases l with
    | nil => cases hn
    | cons o' l =>
      simp only [next, Option.some.injEq, Prod.mk.injEq] at hn
      obtain ⟨rfl, rfl, rfl⟩ := hn
      exact h 0 (by omega)
  | tr t =>
    cases t with
    | one i j t =>
      simp only [next] at hn
      split at hn
      · rename_i o' ho
        simp only [Option.some.injEq, Prod.mk.injEq] at hn
        obtain ⟨rfl, rfl, rfl⟩ := hn
        have ho' : ops[i]? = some o' := by rw [lget_eq] at ho; simpa using ho
        exact ⟨o', ho', h i fun _ => ho'⟩
      · cases hn
    | done => cases hn
    | prm _ _ _ => cases hn
    | alt _ _ _ _ _ _ => cases hn

/-- Two operations that don't look at what the other one yields. -/
def apart (ops : Array Oper) (q j : Nat) : Bool := match lget ops.toList q, lget ops.toList j with
  | some a, some b => match a.dst, b.dst with
    | some c, some d => !(a.looksAt ops).contains d && !(b.looksAt ops).contains c && !Nat.beq c d
    | _, _ => false
  | _, _ => false
/-- t1 is t2 with j put in behind some pure operations -/
def swapOk (ops : Array Oper) (j : Nat) : Tr → Tr → Bool
  | .one i k t, t2 => match k with
    | 0 => match t2 with
      | .one i' 0 t' => Nat.beq i i' && apart ops i j && swapOk ops j t t'
      | _ => false
    | _ => Nat.beq i j && Nat.beq k 2 && decide (t = t2)
  | _, _ => false

theorem wpT_swap {K : Kt} (hsel : noSel ops = true) {j : Nat} {o : Oper} (ho : ops[j]? = some o) : ∀ (t1 t2 : Tr), swapOk ops j t1 t2 = true → ∀ (a : Act) (w : World) (u : Value) (w2 : World),
    (o.semAt r a.eval).run P w = .ok (.value u) w2 → Region.wanted o (yielded ops a.tmps) = true → okDsts o a → wpT P r ops K t2 (a.put o.dst u) w2 → wpT P r ops K t1 a w
  | .done, t2, h, _, _, _, _, _, _, _, _ => by simp [swapOk] at h
  | .prm _ _ _, t2, h, _, _, _, _, _, _, _, _ => by simp [swapOk] at h
  | .alt _ _ _ _ _ _, t2, h, _, _, _, _, _, _, _, _ => by simp [swapOk] at h
  | .one i (k + 1) t, t2, h, a, w, u, w2, hrun, hw, hd, q => by
    simp only [swapOk, Bool.and_eq_true, decide_eq_true_eq] at h
    obtain ⟨⟨h1, h2⟩, rfl⟩ := h
    have e1 := Nat.eq_of_beq_eq_true h1; subst e1
    have e2 := Nat.eq_of_beq_eq_true h2
    refine ⟨o, ho, hd, .inr (.inr ⟨by omega, ?_⟩)⟩
    rw [if_pos hw]
    unfold op1
    rw [hrun]; exact q
  | .one i 0 t, t2, h, a, w, u, w2, hrun, hw, hd, q => by
    simp only [swapOk] at h
    split at h
    · rename_i i' t'
      simp only [Bool.and_eq_true] at h
      obtain ⟨⟨h1, h2⟩, h3⟩ := h
      have e1 := Nat.eq_of_beq_eq_true h1; subst e1
      obtain ⟨o', ho', hd', ⟨_, v, hy, hk⟩ | ⟨hh, _⟩ | ⟨hh, _⟩⟩ := q
      · unfold apart at h2
        rw [lget_eq, lget_eq] at h2
        have ho2 : ops.toList[i]? = some o' := by simpa using ho'
        have hoj : ops.toList[j]? = some o := by simpa using ho
        rw [ho2, hoj] at h2
        simp only at h2
        split at h2
        · rename_i c d hc hdd
          simp only [Bool.and_eq_true, Bool.not_eq_true'] at h2
          obtain ⟨⟨g1, g2⟩, g3⟩ := h2
          have hne : c ≠ d := fun e => by subst e; simp at g3
          have n1 : ∀ t ∈ o'.looksAt ops, (a.put o.dst u).tmps[t]? = a.tmps[t]? := fun t ht => put_ne fun e => by
            rw [hdd] at e; cases e; simp at g1; exact g1 ht
          have n2 : ∀ t ∈ o.looksAt ops, (a.put o'.dst v).tmps[t]? = a.tmps[t]? := fun t ht => put_ne fun e => by
            rw [hc] at e; cases e; simp at g2; exact g2 ht
          obtain ⟨s1, s2⟩ := noSel_spec ops hsel ho
          obtain ⟨k1, k2⟩ := same_of ops s1 s2 n2 r
          have comm : (a.put o.dst u).put o'.dst v = (a.put o'.dst v).put o.dst u := by
            rw [hc, hdd]
            simp only [Act.put]
            congr 1
            exact Array.setIfInBounds_comm _ _ (Ne.symm hne)
          refine ⟨o', ho', fun x hx => by have := hd' x hx; rwa [put_size] at this, .inl ⟨rfl, v, fun w => ?_, ?_⟩⟩
          · exact (hy w).of_same ops hsel fun q hq t ht => by rw [ho'] at hq; cases hq; exact (n1 t ht).symm
          · refine wpT_swap hsel ho t t' h3 _ w u w2 (by rw [k1]; exact hrun) (by rw [k2]; exact hw) (fun x hx => by rw [put_size]; exact hd x hx) ?_
            rw [← comm]; exact hk
        · cases h2
      · cases hh
      · omega
    · cases h

/-- What a reader reads is the same behind an operation whose temporary is di: the readers are told in e, which is known behind it, and read from H. -/
def Stb (P : Program) (r : Option Nat) (ops : Array Oper) (di : Option Nat) (e : Env) (H : List SP) (js : List Nat) : Prop :=
  ∀ j ∈ js, ∃ o d v, ops[j]? = some o ∧ o.dst = some d ∧ di ≠ some d ∧ lk e.m d = some v ∧ wants ops e o = some true ∧ Qt P r o e H v
theorem Stb.nil {di : Option Nat} {e : Env} {H : List SP} : Stb P r ops di e H [] := fun _ h => by cases h
theorem Stb.yl {di : Option Nat} {e : Env} {H : List SP} {js : List Nat} (h : Stb P r ops di e H js) {a : Act} {x : Value} {w : World} (ha : Agree e (a.put di x)) (hs : Sat H (heapOf w)) :
    ∀ j ∈ js, ∀ u d, dstOf ops j = some d → a.tmps[d]? = some u → Yl ops P r j u (a.put di x) w := fun j hj u d hd hu => by
  obtain ⟨o, d', v, h1, h2, h3, h4, h5, h6⟩ := h j hj
  have : d' = d := by unfold dstOf at hd; rw [h1] at hd; simpa [h2] using hd
  subst this
  have hv := ha.val _ _ h4
  rw [put_ne h3, hu] at hv
  cases hv
  exact ⟨o, h1, .inl ⟨wants_spec ha h5, h6 _ _ ha hs⟩⟩

/-- the region's end -/
def over : Plan → Bool
  | .seq [] => true
  | .tr .done => true
  | _ => false
theorem r_end {p : Plan} (q : Ex P r .skip K e H) (hn : over p = true := by rfl) : Run P r ops K p e H := fun a w ha hs => by
  cases p with
  | seq l => cases l with
    | nil => exact q a w ha hs
    | cons => cases hn
  | tr t => cases t with
    | done => exact q a w ha hs
    | _ => cases hn

theorem okDst_lt {n : Nat} {d : Option Nat} (h : okDst n d = true) : ∀ x, d = some x → x < n := by
  intro x e; subst e; simpa [okDst, Nat.blt_eq] using h

theorem run_act {p p' : Plan} {o : Oper} {k : Nat} {N : Value → List SP → Prop} (hn : next ops p = some (o, k, p')) (h : Ef P r o e H N) (hk : Nat.ble 2 k = true) (hw : wants ops e o = some true) (hd : okDst e.n o.dst = true)
    (q : ∀ v H', N v H' → Run P r ops K p' (e.put o.dst v) H') : Run P r ops K p e H := fun a w ha hs =>
  next_spec hn fun i _ => ⟨fun d hd' => by rw [ha.size]; exact okDst_lt hd d hd', .inr (.inr ⟨by simpa using hk, by
    rw [if_pos (wants_spec ha hw)]
    exact (h a w ha hs).mono fun v w' ⟨H', n, s⟩ => q v H' n _ _ (ha.put hd v) s⟩)⟩

theorem run_read {p p' : Plan} {o : Oper} {k : Nat} {v : Value} (hn : next ops p = some (o, k, p')) (h : Qt P r o e H v) (hk : Nat.ble 1 k = true) (hw : wants ops e o = some true) (hd : okDst e.n o.dst = true)
    (q : Run P r ops K p' (e.put o.dst v) H) : Run P r ops K p e H := fun a w ha hs => by
  by_cases h2 : 2 ≤ k
  · exact run_act hn h.ef (by simpa using h2) hw hd (fun u H' ⟨h1, h2⟩ => by subst h1; subst h2; exact q) a w ha hs
  · have hk1 : k = 1 := by simp at hk; omega
    exact next_spec hn fun i ho => ⟨fun d hd' => by rw [ha.size]; exact okDst_lt hd d hd', .inr (.inl ⟨hk1, v, ⟨o, ho (by omega), .inl ⟨wants_spec ha hw, h a w ha hs⟩⟩, q _ _ (ha.put hd v) hs⟩)⟩

theorem run_pure {p p' : Plan} {o : Oper} {k : Nat} {v : Value} (hn : next ops p = some (o, k, p')) (h : Qp P r o e v) (hw : wants ops e o = some true) (hd : okDst e.n o.dst = true)
    (q : Run P r ops K p' (e.put o.dst v) H) : Run P r ops K p e H := fun a w ha hs => by
  by_cases h1 : 1 ≤ k
  · exact run_read hn h.qt (by simpa using h1) hw hd q a w ha hs
  · exact next_spec hn fun i ho => ⟨fun d hd' => by rw [ha.size]; exact okDst_lt hd d hd', .inl ⟨by omega, v, fun w => ⟨o, ho (by omega), .inl ⟨wants_spec ha hw, h a w ha⟩⟩, q _ _ (ha.put hd v) hs⟩⟩

theorem run_skip {p p' : Plan} {o : Oper} {k : Nat} (hn : next ops p = some (o, k, p')) (hw : wants ops e o = some false) (hd : okDst e.n o.dst = true)
    (q : Run P r ops K p' (e.put o.dst undef) H) : Run P r ops K p e H := fun a w ha hs => by
  have hlt : okDsts o a := fun d hd' => by rw [ha.size]; exact okDst_lt hd d hd'
  have hq := wants_spec ha hw
  refine next_spec hn fun i ho => ⟨hlt, ?_⟩
  by_cases h2 : 2 ≤ k
  · exact .inr (.inr ⟨h2, by rw [if_neg (by rw [hq]; simp)]; exact q _ _ (ha.put hd _) hs⟩)
  · by_cases h1 : k = 1
    · exact .inr (.inl ⟨h1, undef, ⟨o, ho (by omega), .inr ⟨hq, rfl⟩⟩, q _ _ (ha.put hd _) hs⟩)
    · exact .inl ⟨by omega, undef, fun w => ⟨o, ho (by omega), .inr ⟨hq, rfl⟩⟩, q _ _ (ha.put hd _) hs⟩

theorem agree_split {a : Act} (ha : Agree e a) {t : Nat} {b c : Bool} (ht : lk e.m t = some (.bool c)) (hb : c = b) : Agree (e.set t (.bool b)) a :=
  ⟨ha.size, fun u v hu => by
    simp only [Env.set, lk] at hu
    cases hbq : Nat.beq u t with
    | true =>
      have := Nat.eq_of_beq_eq_true hbq; subst this
      rw [hbq] at hu; simp only [cond_true] at hu; cases hu
      rw [← hb]; exact ha.val _ _ ht
    | false => rw [hbq] at hu; exact ha.val _ _ hu, ha.ds⟩

/-- the temporary on which the next operation hangs -/
def hangs (ops : Array Oper) (p : Plan) : Option Nat := match next ops p with
  | some (o, _, _) => match o.guard with
    | none => none
    | some (j, _) => match lget ops.toList j with
      | none => none
      | some o => o.dst
  | none => none

/-- a test on which the next operation hangs isn't decided: both ways -/
theorem r_ifb {p : Plan} {n : Nat} {m : List (Nat × Value)} {ds : List Deferred} {t : Nat} {c : Bool}
    (h1 : c = true → Run P r ops K p ⟨n, (t, .bool true) :: m, ds⟩ H) (h0 : c = false → Run P r ops K p ⟨n, (t, .bool false) :: m, ds⟩ H)
    (_hg : hangs ops p = some t := by rfl) (ht : lk m t = some (.bool c) := by rfl) : Run P r ops K p ⟨n, m, ds⟩ H :=
  fun a w ha hs => by
    cases hc : c with
    | true => exact h1 hc a w (agree_split ha ht hc) hs
    | false => exact h0 hc a w (agree_split ha ht hc) hs
theorem r_if {p : Plan} {n : Nat} {m : List (Nat × Value)} {ds : List Deferred} {t : Nat} {q : Prop} [Decidable q]
    (h1 : q → Run P r ops K p ⟨n, (t, .bool true) :: m, ds⟩ H) (h0 : ¬ q → Run P r ops K p ⟨n, (t, .bool false) :: m, ds⟩ H)
    (hg : hangs ops p = some t := by rfl) (ht : lk m t = some (.bool (decide q)) := by rfl) : Run P r ops K p ⟨n, m, ds⟩ H :=
  r_ifb (fun h => h1 (of_decide_eq_true h)) (fun h => h0 (of_decide_eq_false h)) hg ht
theorem r_ifn {p : Plan} {n : Nat} {m : List (Nat × Value)} {ds : List Deferred} {t : Nat} {q : Prop} [Decidable q]
    (h1 : ¬ q → Run P r ops K p ⟨n, (t, .bool true) :: m, ds⟩ H) (h0 : q → Run P r ops K p ⟨n, (t, .bool false) :: m, ds⟩ H)
    (hg : hangs ops p = some t := by rfl) (ht : lk m t = some (.bool (!decide q)) := by rfl) : Run P r ops K p ⟨n, m, ds⟩ H :=
  r_ifb (fun h => h1 (by simpa using h)) (fun h => h0 (by simpa using h)) hg ht

/-! ### A heap, written out -/
def app : List SP → List SP → Option (List SP)
  | [], R => some R
  | A :: L, R => match app L R with
    | some M => some (A :: M)
    | none => none
theorem app_eq : ∀ (L R M : List SP), app L R = some M → L ++ R = M
  | [], R, M, h => by simpa [app] using h
  | A :: L, R, M, h => by
    simp only [app] at h
    split at h
    · rename_i M' hM
      cases h
      simp [app_eq L R M' hM]
    · cases h
theorem r_nf {p : Plan} {L R M : List SP} (q : Run P r ops K p e M) (h : app L R = some M := by rfl) : Run P r ops K p e (L ++ R) := by
  rw [app_eq L R M h]; exact q
theorem e_nf {c : Code} {L R M : List SP} (q : Ex P r c K e M) (h : app L R = some M := by rfl) : Ex P r c K e (L ++ R) := by
  rw [app_eq L R M h]; exact q
/-- on into a region -/
theorem e_r {c : Code} {id : Nat} {ops : Array Oper} {K' : Ko} (q : Run P r ops K' (.seq ops.toList) e H) (h : ctl 200 c K = some (.region id ops false, K') := by rfl) : Ex P r c K e H :=
  e_c (r_start q) h
theorem e_d [TMix P] (pl : Nat → Tr) {c : Code} {id : Nat} {ops : Array Oper} {K' : Ko} (q : Run P r ops K' (.tr (pl id)) e H) (h : ctl 200 c K = some (.region id ops true, K') := by rfl) (hok : drawOk ops (pl id) = true := by kernel_rfl) : Ex P r c K e H :=
  e_c (r_draw (pl id) hok q) h
end
end Go.Sl
