/- The core of a small separation logic over the kit's fenced calculus: heaplets, symbolic heaps as lists of assertions, environments of temporaries, contracts, and the rules on code. -/
import Derived.OrdersIn
import Derived.RangeFuncIn
import Derived.RangeFuncLeaves
import Derived.RangeFuncNested
import Derived.Laws.World
import Derived.KernelRfl
namespace Go.Sl
open Go

/-! ### Heaplets -/
/-- some blocks; and what else there is of a world: the system, the output -/
structure Hp where
  f : Nat → Option Obj
  x : Os × Array (Nat × ByteArray)
instance : CoeFun Hp fun _ => Nat → Option Obj := ⟨Hp.f⟩
abbrev SP := Hp → Prop

def Hp.sub (h g : Hp) : Prop := (∀ b o, h b = some o → g b = some o) ∧ h.x = g.x
/-- h taken out of g; block 0 (the one package-level variable: it is read alone) stays with everybody -/
def Hp.less (g h : Hp) : Hp := ⟨fun b => if b ≠ 0 ∧ (h b).isSome = true then none else g b, g.x⟩
def heapOf (w : World) : Hp := ⟨fun b => w.heap[b]?, w.os, w.output⟩
theorem Hp.ext' {g h : Hp} (h1 : ∀ b, g b = h b) (h2 : g.x = h.x) : g = h := by
  cases g; cases h; simp only at h1 h2; subst h2; congr; funext b; exact h1 b

theorem Hp.subI {h g : Hp} (a : ∀ b o, h b = some o → g b = some o) (b : h.x = g.x) : Hp.sub h g := ⟨a, b⟩
theorem Hp.sub_refl (h : Hp) : Hp.sub h h := ⟨fun _ _ e => e, rfl⟩
theorem Hp.sub_trans {a b c : Hp} (h : Hp.sub a b) (k : Hp.sub b c) : Hp.sub a c := ⟨fun x o e => k.1 x o (h.1 x o e), h.2.trans k.2⟩
theorem Hp.less_sub (g h : Hp) : Hp.sub (Hp.less g h) g := ⟨fun b o e => by
  simp only [Hp.less] at e; split at e
  · cases e
  · exact e, rfl⟩
theorem Hp.less_mono {g g' h : Hp} (s : Hp.sub g g') : Hp.sub (Hp.less g h) (Hp.less g' h) := ⟨fun b o e => by
  simp only [Hp.less] at *
  split at e
  · cases e
  · rename_i hn; rw [if_neg hn]; exact s.1 b o e, s.2⟩
theorem Hp.less_zero (g h : Hp) : Hp.less g h 0 = g 0 := by simp [Hp.less]
theorem Hp.less_none (g : Hp) (x : Os × Array (Nat × ByteArray)) : Hp.less g ⟨fun _ => none, x⟩ = g := Hp.ext' (fun b => by simp [Hp.less]) rfl

/-- What the package-level variable holds (math/bits: the table of 64 numbers). -/
def tab64 : List Nat := [0, 1, 56, 2, 57, 49, 28, 3, 61, 58, 42, 50, 38, 29, 17, 4, 62, 47, 59, 36, 45, 43, 51, 22, 53, 39, 33, 30, 24, 18, 12, 5, 63, 55, 48, 27, 60, 41, 37, 16, 46, 35, 44, 21, 52, 32, 23, 11, 54, 26, 40, 15, 34, 20, 31, 10, 25, 14, 19, 9, 13, 8, 7, 6]
def AmbO (o : Option Obj) : Prop := ∃ cs t fz, o = some (.cells cs t fz) ∧ ∀ (i v : Nat), tab64[i]? = some v → cs[i]? = some (.int .u8 v)

/-- A symbolic heap holds of a heap: each assertion of a part of its own. -/
def Sat : List SP → Hp → Prop
  | [], h => AmbO (h 0)
  | A :: L, h => ∃ h1, Hp.sub h1 h ∧ A h1 ∧ Sat L (Hp.less h h1)

theorem AmbO.mono {h g : Hp} (s : Hp.sub h g) (a : AmbO (h 0)) : AmbO (g 0) := by
  obtain ⟨cs, t, fz, e, k⟩ := a
  exact ⟨cs, t, fz, s.1 0 _ e, k⟩

theorem Sat.amb {L : List SP} : ∀ {h : Hp}, Sat L h → AmbO (h 0) := by
  induction L with
  | nil => exact fun a => a
  | cons A L ih =>
    rintro h ⟨h1, _, _, r⟩
    have := ih r
    rwa [Hp.less_zero] at this

theorem Sat.mono {L : List SP} : ∀ {h g : Hp}, Hp.sub h g → Sat L h → Sat L g := by
  induction L with
  | nil => exact fun s a => AmbO.mono s a
  | cons A L ih =>
    rintro h g s ⟨h1, s1, a, r⟩
    exact ⟨h1, Hp.sub_trans s1 s, a, ih (Hp.less_mono s) r⟩

theorem Sat.swap {A B : SP} {L : List SP} {h : Hp} : Sat (A :: B :: L) h → Sat (B :: A :: L) h := by
  rintro ⟨h1, s1, a, h2, s2, b, r⟩
  refine ⟨h2, Hp.sub_trans s2 (Hp.less_sub _ _), b, h1, ⟨?_, s1.2⟩, a, Sat.mono (Hp.subI ?_ (by rfl)) r⟩
  · intro x o e
    simp only [Hp.less]
    split
    · rename_i hs
      obtain ⟨o', ho'⟩ := Option.isSome_iff_exists.1 hs.2
      have := s2.1 x o' ho'
      simp only [Hp.less] at this
      rw [e] at this; simp [hs.1] at this
    · exact s1.1 x o e
  · intro x o e
    simp only [Hp.less] at *
    split at e
    · cases e
    · rename_i hn2
      split at e
      · cases e
      · rename_i hn1
        rw [if_neg hn1, if_neg hn2]; exact e

theorem Sat.cons_mono {A : SP} {L L' : List SP} (k : ∀ h, Sat L h → Sat L' h) {h : Hp} : Sat (A :: L) h → Sat (A :: L') h :=
  fun ⟨h1, s, a, r⟩ => ⟨h1, s, a, k _ r⟩

theorem Sat.perm {L L' : List SP} (p : L.Perm L') : ∀ {h : Hp}, Sat L h → Sat L' h := by
  induction p with
  | nil => exact fun h => h
  | cons A _ ih => exact fun h => Sat.cons_mono (fun _ => ih) h
  | swap A B L => exact fun h => Sat.swap h
  | trans _ _ ih1 ih2 => exact fun h => ih2 (ih1 h)

theorem Sat.tail {A : SP} {L : List SP} {h : Hp} (s : Sat (A :: L) h) : Sat L h := by
  obtain ⟨h1, _, _, r⟩ := s
  exact Sat.mono (Hp.less_sub _ _) r

theorem Sat.append_left {L M : List SP} : ∀ {h : Hp}, Sat (L ++ M) h → Sat L h := by
  induction L with
  | nil => exact fun s => s.amb
  | cons A L ih => exact fun s => Sat.cons_mono (fun _ => ih) s

theorem Sat.append_right {L M : List SP} : ∀ {h : Hp}, Sat (L ++ M) h → Sat M h := by
  induction L with
  | nil => exact fun s => s
  | cons A L ih => exact fun s => ih (Sat.tail s)

/-! ### Assertions -/
def pt (b : Nat) (o : Obj) : SP := fun h => h b = some o ∧ b ≠ 0
/-- a block of cells -/
def cl (b : Nat) (cs : List Value) (t : TypeId) : SP := pt b (.cells cs.toArray t (0, 0))
def pu (p : Prop) : SP := fun _ => p
def ex {α : Sort _} (A : α → SP) : SP := fun h => ∃ x, A x h
def grp (L : List SP) : SP := fun h => Sat L h

theorem Sat.pt_get {b : Nat} {o : Obj} {L : List SP} {h : Hp} (s : Sat (pt b o :: L) h) : h b = some o := by
  obtain ⟨h1, s1, a, _⟩ := s
  exact s1.1 b o a.1

/-- One block is turned. -/
theorem Sat.pt_set {b : Nat} {o o' : Obj} {L : List SP} {h g : Hp} (s : Sat (pt b o :: L) h)
    (hb : g b = some o') (hg : ∀ x, x ≠ b → g x = h x) (hx : g.x = h.x := by rfl) : Sat (pt b o' :: L) g := by
  obtain ⟨h1, s1, ⟨a, b0⟩, r⟩ := s
  refine ⟨⟨fun x => if x = b then some o' else none, g.x⟩, ⟨?_, rfl⟩, by simp [pt, b0], Sat.mono ⟨?_, by simp [Hp.less, hx]⟩ r⟩
  · intro x y e
    by_cases hx : x = b
    · subst hx; simp at e; rw [hb, e]
    · simp [hx] at e
  · intro x y e
    simp only [Hp.less] at *
    by_cases hx : x = b
    · subst hx
      simp [a, b0] at e
    · simp [hx]
      split at e
      · cases e
      · rw [hg x hx]; exact e

/-- One block more. -/
theorem Sat.pt_new {b : Nat} {o : Obj} {L : List SP} {h g : Hp} (s : Sat L h) (hn : h b = none)
    (hb : g b = some o) (hg : ∀ x, x ≠ b → g x = h x) (hx : g.x = h.x := by rfl) : Sat (pt b o :: L) g := by
  have b0 : b ≠ 0 := by
    rintro rfl
    obtain ⟨cs, t, fz, e, _⟩ := s.amb
    rw [hn] at e; cases e
  refine ⟨⟨fun x => if x = b then some o else none, g.x⟩, ⟨?_, rfl⟩, by simp [pt, b0], Sat.mono ⟨?_, by simp [Hp.less, hx]⟩ s⟩
  · intro x y e
    by_cases hx : x = b
    · subst hx; simp at e; rw [hb, e]
    · simp [hx] at e
  · intro x y e
    simp only [Hp.less]
    by_cases hx : x = b
    · subst hx; rw [hn] at e; cases e
    · simp [hx]; rw [hg x hx]; exact e

theorem Sat.pu_intro {p : Prop} {L : List SP} {h : Hp} (hp : p) (s : Sat L h) : Sat (pu p :: L) h :=
  ⟨⟨fun _ => none, h.x⟩, ⟨fun _ _ e => (by cases e), rfl⟩, hp, by rw [Hp.less_none]; exact s⟩
theorem Sat.pu_elim {p : Prop} {L : List SP} {h : Hp} (s : Sat (pu p :: L) h) : p ∧ Sat L h := ⟨s.choose_spec.2.1, Sat.tail s⟩
theorem Sat.ex_iff {α : Sort _} {A : α → SP} {L : List SP} {h : Hp} : Sat (ex A :: L) h ↔ ∃ x, Sat (A x :: L) h :=
  ⟨fun ⟨h1, s, ⟨x, a⟩, r⟩ => ⟨x, h1, s, a, r⟩, fun ⟨x, h1, s, a, r⟩ => ⟨h1, s, ⟨x, a⟩, r⟩⟩

theorem Sat.join {L M : List SP} : ∀ {h h1 : Hp}, Hp.sub h1 h → Sat L h1 → Sat M (Hp.less h h1) → Sat (L ++ M) h := by
  induction L with
  | nil => exact fun _ _ m => Sat.mono (Hp.less_sub _ _) m
  | cons A L ih =>
    rintro h h1 s ⟨g, sg, a, r⟩ m
    refine ⟨g, Hp.sub_trans sg s, a, ih (h1 := Hp.less h1 g) (Hp.less_mono s) r (Sat.mono (Hp.subI ?_ (by rfl)) m)⟩
    intro x o e
    simp only [Hp.less] at *
    by_cases x0 : x = 0
    · subst x0; simpa using e
    · split at e
      · cases e
      · rename_i hn
        have h0 : h1 x = none := by simpa [x0] using hn
        have hg : g x = none := by
          cases hgx : g x with
          | none => rfl
          | some y => have := sg.1 x y hgx; rw [h0] at this; cases this
        simp [hg, h0, e]

theorem Sat.part {L M : List SP} : ∀ {h : Hp}, Sat (L ++ M) h → ∃ h1, Hp.sub h1 h ∧ Sat L h1 ∧ Sat M (Hp.less h h1) := by
  induction L with
  | nil => exact fun {h} m => ⟨⟨fun x => if x = 0 then h 0 else none, h.x⟩, ⟨fun x _ e => (by
      by_cases hx : x = 0
      · subst hx; simpa using e
      · simp [hx] at e), rfl⟩, (by have := m.amb; simpa [Sat] using this), Sat.mono (Hp.subI (fun b o e => by
        simp only [Hp.less]
        by_cases hb : b = 0
        · subst hb; simpa using e
        · simp [hb]; exact e) (by rfl)) m⟩
  | cons A L ih =>
    rintro h ⟨g, sg, a, r⟩
    obtain ⟨h1, s1, l, m⟩ := ih r
    refine ⟨⟨fun x => (g x).or (h1 x), h.x⟩, ⟨?_, rfl⟩, ⟨g, ⟨?_, sg.2⟩, a, Sat.mono (Hp.subI ?_ s1.2) l⟩, Sat.mono (Hp.subI ?_ (by rfl)) m⟩
    · intro x o e
      cases hg : g x with
      | none => simp [hg] at e; exact (Hp.less_sub _ _).1 x o (s1.1 x o e)
      | some y => simp [hg] at e; rw [← e]; exact sg.1 x y hg
    · intro x o e; simp [e]
    · intro x o e
      have := s1.1 x o e
      simp only [Hp.less] at *
      by_cases x0 : x = 0
      · subst x0
        simp only [ne_eq, not_true_eq_false, false_and, if_false] at this ⊢
        cases hg : g 0 with
        | none => simp [e]
        | some y =>
          have := sg.1 0 y hg
          simp_all
      · split at this
        · cases this
        · rename_i hn
          rw [if_neg hn]
          have : g x = none := by simpa [x0] using hn
          simp [this, e]
    · intro x o e
      simp only [Hp.less] at *
      by_cases x0 : x = 0
      · subst x0; simpa using e
      · split at e
        · cases e
        · rename_i h1n
          split at e
          · cases e
          · rename_i gn
            have g0 : g x = none := by simpa [x0] using gn
            have h0 : h1 x = none := by simpa [x0] using h1n
            simp [g0, h0, e]

theorem Sat.grp_iff {L M : List SP} {h : Hp} : Sat (grp L :: M) h ↔ Sat (L ++ M) h :=
  ⟨fun ⟨_, s, a, r⟩ => Sat.join s a r, fun s => let ⟨h1, s1, a, r⟩ := Sat.part s; ⟨h1, s1, a, r⟩⟩

/-! ### Entailment, and what is taken out of a symbolic heap -/
def Ent (H H' : List SP) : Prop := ∀ h, Sat H h → Sat H' h
theorem Ent.refl (H : List SP) : Ent H H := fun _ h => h
theorem Ent.trans {A B C : List SP} (h : Ent A B) (k : Ent B C) : Ent A C := fun x s => k x (h x s)
theorem Ent.cons {A : SP} {H H' : List SP} (h : Ent H H') : Ent (A :: H) (A :: H') := fun _ s => Sat.cons_mono h s

/-- A is taken out of H; R is left. -/
inductive Sel : List SP → SP → List SP → Prop
  | here (A : SP) (H : List SP) : Sel (A :: H) A H
  | there {B A : SP} {H R : List SP} (h : Sel H A R) : Sel (B :: H) A (B :: R)
theorem Sel.perm {H R : List SP} {A : SP} (h : Sel H A R) : H.Perm (A :: R) := by
  induction h with
  | here => exact .refl _
  | there _ ih => exact (ih.cons _).trans (.swap _ _ _)
theorem Sel.ent {H R : List SP} {A : SP} (h : Sel H A R) : Ent H (A :: R) := fun _ s => s.perm h.perm
theorem Sel.back {H R : List SP} {A : SP} (h : Sel H A R) : Ent (A :: R) H := fun _ s => s.perm h.perm.symm

/-- All of L is taken out of H; R is left. -/
inductive Frm : List SP → List SP → List SP → Prop
  | nil (H : List SP) : Frm H [] H
  | cons {H H1 R : List SP} {A : SP} {L : List SP} (h : Sel H A H1) (k : Frm H1 L R) : Frm H (A :: L) R
theorem Frm.ent {H L R : List SP} (h : Frm H L R) : Ent H (L ++ R) := by
  induction h with
  | nil => exact Ent.refl _
  | cons h _ ih => exact h.ent.trans (Ent.cons ih)

/-! ### Environments: what is known of a frame's temporaries -/
structure Env where
  n : Nat
  m : List (Nat × Value)
  ds : List Deferred

def lk : List (Nat × Value) → Nat → Option Value
  | [], _ => none
  | (k, v) :: m, t => bif Nat.beq t k then some v else lk m t

def Env.ev (e : Env) : Operand → Option Value
  | .tmp t => lk e.m t
  | .const v => some v
  | .global g => some (.pointer (some ⟨g, 0, none⟩))
  | .func f => some (.func (.func f) #[] #[])

def Env.set (e : Env) (d : Nat) (v : Value) : Env := { e with m := (d, v) :: e.m }
def Env.put (e : Env) (d : Option Nat) (v : Value) : Env := match d with | some d => e.set d v | none => e

structure Agree (e : Env) (a : Act) : Prop where
  size : a.tmps.size = e.n
  val : ∀ t v, lk e.m t = some v → a.tmps[t]? = some v
  ds : a.defers = e.ds

theorem Agree.ev {e : Env} {a : Act} (h : Agree e a) {o : Operand} {v : Value} (he : e.ev o = some v) : a.eval o = v := by
  cases o with
  | tmp t => simp only [Act.eval]; rw [Array.getD_eq_getD_getElem?, h.val t v he]; rfl
  | const u => simpa [Env.ev, Act.eval] using he
  | global g => simpa [Env.ev, Act.eval] using he
  | func f => simpa [Env.ev, Act.eval] using he

theorem Agree.set {e : Env} {a : Act} (h : Agree e a) {d : Nat} (hd : Nat.blt d e.n = true) (v : Value) : Agree (e.set d v) (a.put (some d) v) := by
  have hd' : d < a.tmps.size := by rw [h.size]; simpa [Nat.blt_eq] using hd
  refine ⟨by simp [Act.put, h.size, Env.set], fun t u hu => ?_, by simp [Act.put, h.ds, Env.set]⟩
  simp only [Env.set, lk] at hu
  cases hb : Nat.beq t d with
  | true =>
    rw [hb] at hu; simp only [cond_true] at hu
    have := Nat.eq_of_beq_eq_true hb; subst this
    cases hu
    simp [Act.put, hd']
  | false =>
    rw [hb] at hu; simp only [cond_false] at hu
    have hne : d ≠ t := fun e => by subst e; simp at hb
    simp [Act.put, Array.getElem?_setIfInBounds_ne hne, h.val t u hu]

/-- dst is none, or one that is there -/
def okDst (n : Nat) : Option Nat → Bool
  | none => true
  | some d => Nat.blt d n

theorem Agree.put {e : Env} {a : Act} (h : Agree e a) {d : Option Nat} (hd : okDst e.n d = true) (v : Value) : Agree (e.put d v) (a.put d v) := by
  cases d with
  | none => exact h
  | some d => exact h.set hd v

/-- Less is known. -/
def Env.le (e e' : Env) : Prop := e.n = e'.n ∧ e.ds = e'.ds ∧ ∀ t v, lk e'.m t = some v → lk e.m t = some v
theorem Agree.weak {e e' : Env} {a : Act} (h : Agree e a) (k : e.le e') : Agree e' a :=
  ⟨h.size.trans k.1, fun t v hv => h.val t v (k.2.2 t v hv), h.ds.trans k.2.1⟩

/-! ### Contracts -/
/-- All fences here: every function, no depth; 'r': the round's record, if the frame is a round's. -/
abbrev Fw (r : Option Nat) : Fence := { fn := fun _ => True, depth := none, alive := false, round := r }
theorem fw_wide : Fw none = Fence.wide := rfl

/-- The contract of function f at these arguments: from a heap that holds Pre (and whatever else, R) it returns v, and behind it the heap holds L and R; Q tells of v and L. -/
def Ct (P : Program) (f : FuncId) (args : List Value) (Pre : List SP) (Q : Value → List SP → Prop) : Prop :=
  ∀ (R : List SP) (w : World), Sat (Pre ++ R) (heapOf w) →
    CallsIn (Fw none) 0 P f args.toArray w fun e w' => ∃ v L, e = .returned v ∧ Q v L ∧ Sat (L ++ R) (heapOf w')

theorem Ct.mono {P : Program} {f : FuncId} {args : List Value} {Pre : List SP} {Q Q' : Value → List SP → Prop} (h : Ct P f args Pre Q)
    (k : ∀ v L, Q v L → Q' v L) : Ct P f args Pre Q' := fun R w s =>
  (h R w s).mono fun _ _ ⟨v, L, e, q, s'⟩ => ⟨v, L, e, k _ _ q, s'⟩

/-! ### Code -/
abbrev Kt := Exit → Act → World → Prop

/-- What is to come behind the code, told as data. -/
inductive Ko
  | seq (y : Code) (K : Ko)
  | block (id : Nat) (K : Ko)
  | loop (inv : Act → World → Prop) (K : Ko)
  | sem (K : Kt)
def Ko.den (P : Program) (r : Option Nat) : Ko → Kt
  | .seq y K => Exit.then (y.wpIn (Fw r) 0 P (K.den P r)) (K.den P r)
  | .block id K => Exit.inBlock id (K.den P r)
  | .loop inv K => Exit.then inv (K.den P r)
  | .sem K => K

/-- Code that only ends is held by how it ends; all other by the calculus. -/
def wpK (P : Program) (r : Option Nat) (c : Code) (K : Kt) (a : Act) (w : World) : Prop :=
  match c with
  | .skip => K .normal a w
  | .exit id => K (.exit id) a w
  | .ret => K .ret a w
  | c => c.wpIn (Fw r) 0 P K a w
theorem wpK.wpIn {P : Program} {r : Option Nat} {c : Code} {K : Kt} {a : Act} {w : World} (h : wpK P r c K a w) : c.wpIn (Fw r) 0 P K a w := by
  cases c <;> first | exact h | exact wpIn_skip h | exact wpIn_exit h | exact wpIn_ret h

/-- From a state of which e and H are known, the code goes through, and what is to come goes well. -/
def Ex (P : Program) (r : Option Nat) (c : Code) (K : Ko) (e : Env) (H : List SP) : Prop :=
  ∀ a w, Agree e a → Sat H (heapOf w) → wpK P r c (K.den P r) a w

/-- The way to what comes next: sequences, blocks, jumps. -/
def ctl : Nat → Code → Ko → Option (Code × Ko)
  | 0, _, _ => none
  | f + 1, .seq x y, K => ctl f x (.seq y K)
  | f + 1, .block id c, K => ctl f c (.block id K)
  | f + 1, .skip, .seq y K => ctl f y K
  | f + 1, .skip, .block _ K => ctl f .skip K
  | f + 1, .exit id, .seq _ K => ctl f (.exit id) K
  | f + 1, .exit id, .block id' K => bif Nat.beq id id' then ctl f .skip K else ctl f (.exit id) K
  | f + 1, .exit id, .loop _ K => ctl f (.exit id) K
  | f + 1, .ret, .seq _ K => ctl f .ret K
  | f + 1, .ret, .block _ K => ctl f .ret K
  | f + 1, .ret, .loop _ K => ctl f .ret K
  | _ + 1, c, K => some (c, K)

section
variable {P : Program} {r : Option Nat} {K : Ko} {e : Env} {H : List SP}

theorem Ex.ent {c : Code} {H' : List SP} (h : Ex P r c K e H') (k : Ent H H') : Ex P r c K e H := fun a w ha hs => h a w ha (k _ hs)
theorem Ex.weak {c : Code} {e' : Env} (h : Ex P r c K e' H) (k : e.le e') : Ex P r c K e H := fun a w ha hs => h a w (ha.weak k) hs

/-- whoever ends without doing anything hands on how it ends -/
theorem ctl_sound : ∀ (f : Nat) (c : Code) (K : Ko) (c' : Code) (K' : Ko), ctl f c K = some (c', K') → ∀ a w, wpK P r c' (K'.den P r) a w → wpK P r c (K.den P r) a w
  | 0, c, K, c', K', h, a, w, q => by cases c <;> cases K <;> simp [ctl] at h
  | f + 1, c, K, c', K', h, a, w, q => by
    have same : some (c, K) = some (c', K') → wpK P r c (K.den P r) a w := fun h => by cases h; exact q
    cases c with
    | seq x y => simp only [ctl] at h; exact wpIn_seq (ctl_sound f x (.seq y K) c' K' h a w q).wpIn
    | block id c => simp only [ctl] at h; exact wpIn_block (ctl_sound f c (.block id K) c' K' h a w q).wpIn
    | skip =>
      cases K with
      | seq y K => simp only [ctl] at h; exact (ctl_sound f y K c' K' h a w q).wpIn
      | block id K => simp only [ctl] at h; exact ctl_sound f .skip K c' K' h a w q
      | loop inv K => exact same (by simpa only [ctl] using h)
      | sem K => exact same (by simpa only [ctl] using h)
    | exit id =>
      cases K with
      | seq y K => simp only [ctl] at h; exact ctl_sound f (.exit id) K c' K' h a w q
      | block id' K =>
        simp only [ctl] at h
        cases hb : Nat.beq id id' with
        | true =>
          rw [hb] at h; simp only [cond_true] at h
          have := Nat.eq_of_beq_eq_true hb; subst this
          have := ctl_sound f .skip K c' K' h a w q
          show Exit.inBlock id (K.den P r) (.exit id) a w
          simp only [Exit.inBlock, if_true]; exact this
        | false =>
          rw [hb] at h; simp only [cond_false] at h
          have hne : id ≠ id' := fun e => by subst e; simp at hb
          have := ctl_sound f (.exit id) K c' K' h a w q
          show Exit.inBlock id' (K.den P r) (.exit id) a w
          simp only [Exit.inBlock, if_neg hne]; exact this
      | loop inv K => simp only [ctl] at h; exact ctl_sound f (.exit id) K c' K' h a w q
      | sem K => exact same (by simpa only [ctl] using h)
    | ret =>
      cases K with
      | seq y K => simp only [ctl] at h; exact ctl_sound f .ret K c' K' h a w q
      | block id' K => simp only [ctl] at h; exact ctl_sound f .ret K c' K' h a w q
      | loop inv K => simp only [ctl] at h; exact ctl_sound f .ret K c' K' h a w q
      | sem K => exact same (by simpa only [ctl] using h)
    | region _ _ _ => exact same (by cases K <;> simpa only [ctl] using h)
    | cond _ _ _ => exact same (by cases K <;> simpa only [ctl] using h)
    | loop _ => exact same (by cases K <;> simpa only [ctl] using h)
    | rangeFunc _ _ _ _ => exact same (by cases K <;> simpa only [ctl] using h)
    | scope _ => exact same (by cases K <;> simpa only [ctl] using h)
    | label _ => exact same (by cases K <;> simpa only [ctl] using h)
    | goto _ => exact same (by cases K <;> simpa only [ctl] using h)
    | refuse _ => exact same (by cases K <;> simpa only [ctl] using h)

/-- on to the next region, test or loop -/
theorem e_c {c c' : Code} {K' : Ko} (q : Ex P r c' K' e H) (h : ctl 200 c K = some (c', K') := by rfl) : Ex P r c K e H := fun a w ha hs => ctl_sound 200 c K c' K' h a w (q a w ha hs)

theorem e_true {c : Operand} {x y : Code} (q : Ex P r x K e H) (hc : e.ev c = some (.bool true) := by rfl) : Ex P r (.cond c x y) K e H := fun a w ha hs =>
  wpIn_cond_true (ha.ev hc) (q a w ha hs).wpIn
theorem e_false {c : Operand} {x y : Code} (q : Ex P r y K e H) (hc : e.ev c = some (.bool false) := by rfl) : Ex P r (.cond c x y) K e H := fun a w ha hs =>
  wpIn_cond_false (ha.ev hc) (q a w ha hs).wpIn
theorem e_ifb {c : Operand} {x y : Code} {t : Bool} (ht : t = true → Ex P r x K e H) (hf : t = false → Ex P r y K e H) (hc : e.ev c = some (.bool t) := by rfl) :
    Ex P r (.cond c x y) K e H := fun a w ha hs => wpIn_cond_split (ha.ev hc) (fun h => (ht h a w ha hs).wpIn) (fun h => (hf h a w ha hs).wpIn)
theorem e_if {c : Operand} {x y : Code} {p : Prop} [Decidable p] (ht : p → Ex P r x K e H) (hf : ¬ p → Ex P r y K e H) (hc : e.ev c = some (.bool (decide p)) := by rfl) :
    Ex P r (.cond c x y) K e H := e_ifb (fun h => ht (of_decide_eq_true h)) (fun h => hf (of_decide_eq_false h)) hc
theorem e_ifn {c : Operand} {x y : Code} {p : Prop} [Decidable p] (ht : ¬ p → Ex P r x K e H) (hf : p → Ex P r y K e H) (hc : e.ev c = some (.bool (!decide p)) := by rfl) :
    Ex P r (.cond c x y) K e H := e_ifb (fun h => ht (by simpa using h)) (fun h => hf (by simpa using h)) hc

/-- the least number of a kind -/
theorem least {p : Nat → Prop} (h : ∃ k, p k) : ∃ k, p k ∧ ∀ j, p j → k ≤ j := by
  obtain ⟨k, hk⟩ := h
  induction k using Nat.strongRecOn with
  | _ k ih =>
    by_cases hj : ∃ j, j < k ∧ p j
    · obtain ⟨j, hlt, hp⟩ := hj
      exact ih j hlt hp
    · exact ⟨k, hk, fun j hp => by
        rcases Nat.lt_or_ge j k with h | h
        · exact absurd ⟨j, h, hp⟩ hj
        · exact h⟩

/-- what holds at a loop's head: of a ghost of whatever type, with a measure -/
def LInv {G : Type} (φ : G → Prop) (I : G → Env) (J : G → List SP) (μ : G → Nat) (g : G) : Act → World → Prop :=
  fun a w => ∃ g', φ g' ∧ μ g' < μ g ∧ Agree (I g') a ∧ Sat (J g') (heapOf w)

/-- A loop. -/
theorem e_loop {c : Code} {G : Type} (φ : G → Prop) (I : G → Env) (J : G → List SP) (μ : G → Nat) (g₀ : G) (hφ : φ g₀) (h₀e : e.le (I g₀)) (h₀ : Ent H (J g₀))
    (round : ∀ g, φ g → Ex P r c (.loop (LInv φ I J μ g) K) (I g) (J g)) : Ex P r (.loop c) K e H := fun a w ha hs => by
  let ok : Act → World → Nat → Prop := fun a w k => ∃ g, φ g ∧ μ g = k ∧ Agree (I g) a ∧ Sat (J g) (heapOf w)
  let m : Act → World → Nat := fun a w => Classical.epsilon fun k => ok a w k ∧ ∀ j, ok a w j → k ≤ j
  have hm : ∀ a w, (∃ k, ok a w k) → ok a w (m a w) ∧ ∀ j, ok a w j → m a w ≤ j := fun a w h => Classical.epsilon_spec (least h)
  show (Code.loop c).wpIn (Fw r) 0 P (K.den P r) a w
  refine wpIn_loop (fun a w => ∃ k, ok a w k) m ⟨_, g₀, hφ, rfl, ha.weak h₀e, h₀ _ hs⟩ ?_
  intro a w hI
  obtain ⟨⟨g, hp, hg, h1, h2⟩, _⟩ := hm a w hI
  refine wpIn_mono (round g hp a w h1 h2).wpIn ?_
  intro x a' w' q
  cases x with
  | normal =>
    obtain ⟨g', hp', hlt, h1', h2'⟩ := q
    have hk' : ok a' w' (μ g') := ⟨g', hp', rfl, h1', h2'⟩
    have := (hm a' w' ⟨_, hk'⟩).2 _ hk'
    exact ⟨⟨_, hk'⟩, by omega⟩
  | exit id => exact q
  | goto l => exact q
  | ret => exact q
  | panic ch => exact q
  | outgrown => exact q

/-- a round's end -/
theorem e_next {G : Type} {φ : G → Prop} {I : G → Env} {J : G → List SP} {μ : G → Nat} {g : G} (g' : G) (hφ : φ g') (hlt : μ g' < μ g) (he : e.le (I g')) (hH : Ent H (J g')) :
    Ex P r .skip (.loop (LInv φ I J μ g) K) e H := fun _ _ ha hs => ⟨g', hφ, hlt, ha.weak he, hH _ hs⟩

/-- less is known: entry by entry -/
theorem le_nil {n : Nat} {m : List (Nat × Value)} {ds : List Deferred} : Env.le ⟨n, m, ds⟩ ⟨n, [], ds⟩ := ⟨rfl, rfl, fun _ _ h => by simp [lk] at h⟩
theorem le_cons {n : Nat} {m m' : List (Nat × Value)} {ds : List Deferred} {t : Nat} {v : Value} (k : Env.le ⟨n, m, ds⟩ ⟨n, m', ds⟩) (h : lk m t = some v := by rfl) : Env.le ⟨n, m, ds⟩ ⟨n, (t, v) :: m', ds⟩ :=
  ⟨rfl, rfl, fun u x hx => by
    simp only [lk] at hx
    cases hb : Nat.beq u t with
    | true =>
      rw [hb] at hx; simp only [cond_true, Option.some.injEq] at hx
      have := Nat.eq_of_beq_eq_true hb; subst this; subst hx; exact h
    | false => rw [hb] at hx; exact k.2.2 u x hx⟩
end
end Go.Sl
