/- More rules: two operations that make memory, in either order; slices that are only read; elements of a list of assertions. -/
import Derived.Test.YtnignhaamlmelaaGreatDoorSl13
namespace Go.Sl
open Go
section
variable {P : Program} {r : Option Nat} {ops : Array Oper} {K : Ko} {p p' : Plan} {n : Nat} {m m' : List (Nat × Value)} {ds : List Deferred} {H R : List SP} {e : Env}

/-- an operation that makes a block -/
def NewOp (P : Program) (e : Env) (o : Oper) (kd : Option Nat) (us : List Value) (ty : TypeId) : Prop :=
  (∀ c, o.op ≠ .defer c) ∧ ∀ a w, Agree e a → (execOp a.eval o).run P w = .ok (.value (newV kd w.heap.size)) (w.alloc (.cells us.toArray ty (0, 0)))
/-- an operation that acts on Pre alone -/
def ActOp (P : Program) (e : Env) (o : Oper) (Pre : List SP) (Q : Value → List SP → Prop) : Prop :=
  (∀ c, o.op ≠ .defer c) ∧ ∀ R a w, Agree e a → Sat (Pre ++ R) (heapOf w) → op1U P (fun v w' => ∃ L, Q v L ∧ Sat (L ++ R) (heapOf w')) ((execOp a.eval o).run P w)
theorem NewOp.act {o : Oper} {kd : Option Nat} {us : List Value} {ty : TypeId} (h : NewOp P e o kd us ty) : ActOp P e o [] fun v L => ∃ b, v = newV kd b ∧ L = [cl b us ty] :=
  ⟨h.1, fun R a w ha hs => by rw [h.2 a w ha]; exact ⟨_, ⟨w.heap.size, rfl, rfl⟩, sat_alloc hs⟩⟩

theorem r_altG {us : List Value} {ty : TypeId} {kd : Option Nat} {Pre : List SP} {Q : Value → List SP → Prop} {d1 : Option Nat} {d2 : Nat} {op1 op2 : Op} {js1 js2 : List Nat} {t : Tr}
    (hE1 : ∀ o : Oper, o.op = op1 → ActOp P ⟨n, m, ds⟩ o Pre Q) (hN2 : ∀ o : Oper, o.op = op2 → NewOp P ⟨n, m, ds⟩ o kd us ty)
    (q : ∀ b v L, Q v L → Run P r ops K (.tr t) ⟨n, putM d1 v ((d2, newV kd b) :: m), ds⟩ (L ++ cl b us ty :: R))
    (h : stepA ops p n m = some ((d1, op1, js1), (d2, op2, js2), t))
    (hF : Frm H Pre R)
    (st1 : ∀ v, Stb P r ops d1 ⟨n, putM d1 v m, ds⟩ R js1)
    (st2 : ∀ v, Stb P r ops (some d2) ⟨n, (d2, v) :: m, ds⟩ H js2) : Run P r ops K p ⟨n, m, ds⟩ H := by
  obtain ⟨i, j, x, y, t1, hi, hj, e1, e2, e3, e4, hlt, hok, hsel, hne, hl1, hl2, hsw, hwx, hwy, hp⟩ := stepA_spec h
  subst e1 e3 e4
  have hcall := hE1 x rfl
  have hnew := hN2 y rfl
  have hwx' : wants ops ⟨n, m, ds⟩ x = some true := by rw [← wants_ds]; exact hwx
  have hwy' : wants ops ⟨n, m, ds⟩ y = some true := by rw [← wants_ds]; exact hwy
  have hEn : ∀ {o : Oper} {a : Act}, (∀ c, o.op ≠ .defer c) → o.semAt r a.eval = execOp a.eval o := fun hd => Oper.semAt_eq _ _ _ hd
  have oky : ∀ a : Act, Agree ⟨n, m, ds⟩ a → okDsts y a := fun a ha d hd => by rw [e2] at hd; cases hd; rw [ha.size]; simpa [Nat.blt_eq] using hlt
  have okx : ∀ a : Act, Agree ⟨n, m, ds⟩ a → okDsts x a := fun a ha => fun d hd => by rw [ha.size]; exact okDst_lt hok d hd
  have newFirst : ∀ a w, Agree ⟨n, m, ds⟩ a → Sat H (heapOf w) → wpr P r ops j js2 (wpT P r ops (K.den P r) (.one i 2 t)) a w := by
    intro a w ha hs
    refine ⟨y, hj, oky a ha, wants_spec ha hwy', ?_⟩
    unfold Sl.op1
    rw [hEn hnew.1, hnew.2 a w ha]
    have hA : Agree ⟨n, (d2, newV kd w.heap.size) :: m, ds⟩ (a.put y.dst (newV kd w.heap.size)) := by rw [e2]; exact ha.set hlt _
    have hs2 : Sat (cl w.heap.size us ty :: H) (heapOf (w.alloc (.cells us.toArray ty (0, 0)))) := sat_alloc hs
    refine ⟨?_, x, hi, fun d hd => by rw [put_size]; exact okx a ha d hd, .inr (.inr ⟨Nat.le_refl _, ?_⟩)⟩
    · have := (st2 (newV kd w.heap.size)).yl (a := a) (x := newV kd w.heap.size) (w := w.alloc (.cells us.toArray ty (0, 0))) (by rw [← e2]; exact hA) (Sat.tail hs2)
      rw [e2]; exact this
    · obtain ⟨s1, s2⟩ := noSel_spec ops hsel hi
      obtain ⟨k1, k2⟩ := same_of ops s1 s2 (a := a) (a' := a.put y.dst (newV kd w.heap.size)) (fun t ht => put_ne fun e => by rw [e2] at e; cases e; exact hl1 ht) r
      rw [if_pos (by rw [k2]; exact wants_spec ha hwx')]
      unfold Sl.op1
      rw [k1, hEn hcall.1]
      have hs3 : Sat (Pre ++ cl w.heap.size us ty :: R) (heapOf (w.alloc (.cells us.toArray ty (0, 0)))) := perm_mid _ _ _ _ (Ent.cons hF.ent _ hs2)
      refine op1U.mono (fun v w' ⟨L, h2, h3⟩ => ?_) (hcall.2 _ a _ ha hs3)
      exact q _ v L h2 _ _ (putM_agree hA hok v) h3
  have callFirst : ∀ a w, Agree ⟨n, m, ds⟩ a → Sat H (heapOf w) → wpr P r ops i js1 (wpT P r ops (K.den P r) t1) a w := by
    intro a w ha hs
    refine ⟨x, hi, okx a ha, wants_spec ha hwx', ?_⟩
    unfold Sl.op1
    rw [hEn hcall.1]
    refine op1U.mono (fun v w' ⟨L, h2, h3⟩ => ⟨?_, ?_⟩) (hcall.2 R a w ha (hF.ent _ hs))
    · exact (st1 v).yl (putM_agree ha hok v) (Sat.append_right h3)
    · obtain ⟨s1, s2⟩ := noSel_spec ops hsel hj
      obtain ⟨k1, k2⟩ := same_of ops s1 s2 (a := a) (a' := a.put x.dst v) (fun t ht => put_ne fun e => hl2 t e ht) r
      refine wpT_swap hsel hj t1 t hsw _ w' (newV kd w'.heap.size) (w'.alloc (.cells us.toArray ty (0, 0))) (by rw [k1, hEn hnew.1]; exact hnew.2 a w' ha) (by rw [k2]; exact wants_spec ha hwy') (fun d hd => by rw [put_size]; exact oky a ha d hd) ?_
      have comm : (a.put x.dst v).put y.dst (newV kd w'.heap.size) = (a.put y.dst (newV kd w'.heap.size)).put x.dst v := by
        rw [e2]
        cases hd : x.dst with
        | none => rfl
        | some c =>
          simp only [Act.put]
          congr 1
          exact Array.setIfInBounds_comm _ _ (fun e => hne (by rw [hd, e]))
      rw [comm]
      have hA : Agree ⟨n, (d2, newV kd w'.heap.size) :: m, ds⟩ (a.put y.dst (newV kd w'.heap.size)) := by rw [e2]; exact ha.set hlt _
      exact q _ v L h2 _ _ (putM_agree hA hok v) (perm_mid _ _ _ _ (sat_alloc h3))
  rcases hp with rfl | rfl
  · exact fun a w ha hs => ⟨callFirst a w ha hs, newFirst a w ha hs⟩
  · exact fun a w ha hs => ⟨newFirst a w ha hs, callFirst a w ha hs⟩

theorem newOp_mk [T : Ty P] {x y : Operand} {t el : TypeId} {s bz : Nat} {z : List Value} {a1 : Value} {a2 : List Value} {a3 a4 : Nat} {c : Nat} {o : Oper}
    (ho : o.op = .makeSlice t x y) (hx : Env.ev ⟨n, m, ds⟩ x = some (.int .i64 (c : Int))) (hy : Env.ev ⟨n, m, ds⟩ y = some (.int .i64 (c : Int)))
    (hi : tget T.tab t = some ⟨.slice el s bz z, a1, a2, a3, a4⟩) (hb : c * bz ≤ 281474976710656 ∧ c ≤ 9223372036854775807) : NewOp P ⟨n, m, ds⟩ o (some c) (zeros c z) el := by
  have hT := (ty_get hi).2.2.1
  obtain ⟨ii, zv, g1, g3, g4, g2, g5⟩ := hT.info
  have hzs : z.length = s := hT.len
  refine ⟨by simp [ho], fun a w ha => ?_⟩
  have hbz : (ii.bytes : Int) * (c : Int) ≤ 281474976710656 := by
    have : (ii.bytes : Int) * (c : Int) = ((c * bz : Nat) : Int) := by rw [g5, Nat.mul_comm, Int.natCast_mul]
    omega
  have hr := run_make (P := P) w t el ii zv hT.out g1 g3 .i64 .i64 (c : Int) (c : Int) (by omega) (Int.le_refl _) hbz (by omega)
  have key : madeCells zv.cells ((c : Int).toNat * ii.size) = (zeros c z).toArray := by
    apply Array.toList_inj.1
    have hz0 : zv.cells.size = ii.size := by rw [g4]; simp [hzs, g2]
    have := zeros_eq zv.cells c
    rw [Int.toNat_natCast, ← hz0]
    unfold madeCells
    rw [Array.toList_map, Array.toList_range, this, g4]
  rw [key] at hr
  simp only [Int.toNat_natCast] at hr
  simp [execOp, ho, ha.ev hx, ha.ev hy, hr, newV]

/-- two slices are made, in either order -/
theorem r_mk2 [T : Ty P] {x1 y1 x2 y2 : Operand} {t1 el1 t2 el2 : TypeId} {s1 bz1 s2 bz2 : Nat} {z1 z2 : List Value} {a1 b1 : Value} {a2 b2 : List Value} {a3 a4 b3 b4 : Nat} {l1 l1' l2 l2' : Int} {c1 c2 d1 d2 : Nat} {dd1 : Option Nat} {op1 op2 : Op} {js1 js2 : List Nat} {t : Tr}
    (q : ∀ b1 b2, Run P r ops K (.tr t) ⟨n, (d1, .slice (some ⟨b1, 0, none⟩) c1 c1) :: (d2, .slice (some ⟨b2, 0, none⟩) c2 c2) :: m, ds⟩ (cl b1 (zeros c1 z1) el1 :: cl b2 (zeros c2 z2) el2 :: H))
    (h : stepA ops p n m = some ((dd1, op1, js1), (d2, op2, js2), t) := by rfl) (hd1 : dd1 = some d1 := by rfl) (ho1 : op1 = .makeSlice t1 x1 y1 := by rfl) (ho2 : op2 = .makeSlice t2 x2 y2 := by rfl)
    (hx1 : Env.ev ⟨n, m, []⟩ x1 = some (.int .i64 l1) := by rfl) (hy1 : Env.ev ⟨n, m, []⟩ y1 = some (.int .i64 l1') := by rfl) (hx2 : Env.ev ⟨n, m, []⟩ x2 = some (.int .i64 l2) := by rfl) (hy2 : Env.ev ⟨n, m, []⟩ y2 = some (.int .i64 l2') := by rfl)
    (hi1 : tget T.tab t1 = some ⟨.slice el1 s1 bz1 z1, a1, a2, a3, a4⟩ := by rfl) (hi2 : tget T.tab t2 = some ⟨.slice el2 s2 bz2 z2, b1, b2, b3, b4⟩ := by rfl)
    (e1 : l1 = (c1 : Int) := by first | rfl | omega) (e1' : l1' = (c1 : Int) := by first | rfl | omega) (e2 : l2 = (c2 : Int) := by first | rfl | omega) (e2' : l2' = (c2 : Int) := by first | rfl | omega)
    (hb1 : c1 * bz1 ≤ 281474976710656 ∧ c1 ≤ 9223372036854775807 := by omega) (hb2 : c2 * bz2 ≤ 281474976710656 ∧ c2 ≤ 9223372036854775807 := by omega)
    (st1 : ∀ v, Stb P r ops (some d1) ⟨n, (d1, v) :: m, ds⟩ H js1 := by (intro _; repeat (first | exact Stb.nil | refine Stb.cons ?_)))
    (st2 : ∀ v, Stb P r ops (some d2) ⟨n, (d2, v) :: m, ds⟩ H js2 := by (intro _; repeat (first | exact Stb.nil | refine Stb.cons ?_))) : Run P r ops K p ⟨n, m, ds⟩ H := by
  rw [ev_ds (ds := ds)] at hx1 hy1 hx2 hy2
  subst e1 e1' e2 e2' hd1 ho1 ho2
  refine r_altG (Pre := []) (fun o ho => (newOp_mk ho hx1 hy1 hi1 hb1).act) (fun o ho => newOp_mk ho hx2 hy2 hi2 hb2) (fun b v L ⟨b', e1, e2⟩ => ?_) h (Frm.nil _) st1 st2
  subst e1 e2
  exact q b' b

def wantI (ops : Array Oper) (n : Nat) (m : List (Nat × Value)) (i : Nat) : Bool := match lget ops.toList i with
  | some o => match wants ops ⟨n, m, []⟩ o with
    | some true => true
    | _ => false
  | none => false
theorem one_prm {i : Nat} {t : Tr} {K : Kt} {a : Act} {w : World} (ha : Agree ⟨n, m, ds⟩ a) (h : wpT P r ops K (.one i 2 t) a w) (hi : wantI ops n m i = true) : wpr P r ops i [] (wpT P r ops K t) a w := by
  obtain ⟨o, ho, hd, hk⟩ := h
  rcases hk with ⟨h0, _⟩ | ⟨h0, _⟩ | ⟨_, hk⟩
  · cases h0
  · cases h0
  · have hw : wants ops ⟨n, m, ds⟩ o = some true := by
      have ho' : lget ops.toList i = some o := by rw [lget_eq]; simpa using ho
      unfold wantI at hi
      rw [ho'] at hi
      rw [← wants_ds]
      simp only at hi
      split at hi
      · assumption
      · cases hi
    have hw' := wants_spec ha hw
    rw [if_pos hw'] at hk
    exact ⟨o, ho, hd, hw', hk.mono fun v w' q => ⟨fun j hj => absurd hj (by simp), q⟩⟩
/-- two operations that act, in either order: each order is walked -/
theorem r_or {i j : Nat} {t1 t2 : Tr} (q1 : Run P r ops K (.tr (.one i 2 t1)) ⟨n, m, ds⟩ H) (q2 : Run P r ops K (.tr (.one j 2 t2)) ⟨n, m, ds⟩ H)
    (hi : wantI ops n m i = true := by rfl) (hj : wantI ops n m j = true := by rfl) : Run P r ops K (.tr (.alt i [] t1 j [] t2)) ⟨n, m, ds⟩ H := fun a w ha hs =>
  ⟨one_prm ha (q1 a w ha hs) hi, one_prm ha (q2 a w ha hs) hj⟩

theorem r_or2 {i j : Nat} {js1 js2 : List Nat} {t1 t2 : Tr} {e : Env} (q1 : Run P r ops K (.tr (.prm i js1 t1)) e H) (q2 : Run P r ops K (.tr (.prm j js2 t2)) e H) : Run P r ops K (.tr (.alt i js1 t1 j js2 t2)) e H := fun a w ha hs =>
  ⟨q1 a w ha hs, q2 a w ha hs⟩
theorem wpr_mono {i : Nat} {js : List Nat} {X Y : Act → World → Prop} {a : Act} {w : World} (f : ∀ a w, X a w → Y a w) (h : wpr P r ops i js X a w) : wpr P r ops i js Y a w := by
  obtain ⟨o, h1, h2, h3, h4⟩ := h
  exact ⟨o, h1, h2, h3, h4.mono fun v w' ⟨q1, q2⟩ => ⟨q1, f _ _ q2⟩⟩
theorem wpT_mono {K1 K2 : Kt} (f : ∀ a w, K1 .normal a w → K2 .normal a w) : ∀ (t : Tr) (a : Act) (w : World), wpT P r ops K1 t a w → wpT P r ops K2 t a w
  | .done, a, w, h => f a w h
  | .one i k t, a, w, ⟨o, ho, h⟩ => ⟨o, ho, h.mono (wpT_mono f t)⟩
  | .prm i js t, a, w, h => wpr_mono (wpT_mono f t) h
  | .alt i js1 t1 j js2 t2, a, w, ⟨h1, h2⟩ => ⟨wpr_mono (wpT_mono f t1) h1, wpr_mono (wpT_mono f t2) h2⟩
theorem wpL_mono {K1 K2 : Kt} (f : ∀ a w, K1 .normal a w → K2 .normal a w) : ∀ (l : List Oper) (a : Act) (w : World), wpL P r ops K1 l a w → wpL P r ops K2 l a w
  | [], a, w, h => f a w h
  | o :: l, a, w, h => wp1.mono h (wpL_mono f l)
/-- what is known behind a region, by a ghost -/
def PostK {X : Sort _} (e' : X → Env) (H' : X → List SP) : Kt := fun x a w => x = .normal ∧ ∃ g, Agree (e' g) a ∧ Sat (H' g) (heapOf w)
/-- all ways through a region meet behind it -/
theorem r_post {X : Sort _} {e : Env} (e' : X → Env) (H' : X → List SP) (h : Run P r ops (.sem (PostK e' H')) p e H) (q : ∀ g, Ex P r .skip K (e' g) (H' g)) : Run P r ops K p e H := fun a w ha hs => by
  have f : ∀ a w, PostK e' H' .normal a w → K.den P r .normal a w := fun a w ⟨_, g, h1, h2⟩ => q g a w h1 h2
  cases p with
  | seq l => exact wpL_mono f l a w (h a w ha hs)
  | tr t => exact wpT_mono f t a w (h a w ha hs)
theorem r_fin {X : Sort _} {e' : X → Env} {H' : X → List SP} {e : Env} (g : X) (he : e.le (e' g)) (hE : Ent H (H' g)) (hn : over p = true := by rfl) : Run P r ops (.sem (PostK e' H')) p e H :=
  r_end (fun a w ha hs => ⟨rfl, g, ha.weak he, hE _ hs⟩) hn

/-- a store of one cell, while readers may be behind -/
theorem r_spi [T : Ty P] {js : List Nat} {x y : Operand} {t et : TypeId} {b j : Nat} {cs : List Value} {v : Value} {i : TyI} {op : Op} (hv : j < cs.length) (q : Run P r ops K p' ⟨n, m, ds⟩ (cl b (cs.set j v) et :: R))
    (h : stepR ops p n m = some (none, op, js, p') := by rfl) (ho : op = .store t x y := by rfl) (hx : Env.ev ⟨n, m, []⟩ x = some (.pointer (some ⟨b, j, none⟩)) := by rfl) (hy : Env.ev ⟨n, m, []⟩ y = some v := by rfl)
    (hb : Tk H b cs et R := by infer_instance) (hi : tget T.tab t = some i := by rfl) (hz : i.size = 1 := by rfl) (h1 : oneCell v = true := by rfl)
    (hst : Stb P r ops none ⟨n, m, ds⟩ R js := by (repeat (first | exact Stb.nil | refine Stb.cons ?_))) : Run P r ops K p ⟨n, m, ds⟩ H := by
  rw [ev_ds (ds := ds)] at hx hy
  have hI := info_of (ty_get hi)
  rw [hz] at hI
  subst ho
  exact r_prm (N := fun _ H' => H' = cl b (cs.set j v) et :: R) h (fun o ho => ef_store1 hI ho hx hy hb ⟨rfl, hv⟩ h1) (fun v' H' e => by subst e; exact fun _ s => Sat.tail s) (fun _ => hst) fun v' H' e => by subst e; exact q
/-- a store into known cells, while readers may be behind -/
theorem r_sp' [T : Ty P] {js : List Nat} {x y : Operand} {t et : TypeId} {b j : Nat} {cs cs' : List Value} {v : Value} {op : Op} (q : Run P r ops K p' ⟨n, m, ds⟩ (cl b cs' et :: R))
    (h : stepR ops p n m = some (none, op, js, p') := by rfl) (ho : op = .store t x y := by rfl) (hx : Env.ev ⟨n, m, []⟩ x = some (.pointer (some ⟨b, j, none⟩)) := by rfl) (hy : Env.ev ⟨n, m, []⟩ y = some v := by rfl)
    (hb : Tk H b cs et R := by infer_instance) (hv : stC (tget T.tab) t cs j v = some cs' := by rfl)
    (hst : Stb P r ops none ⟨n, m, ds⟩ R js := by (repeat (first | exact Stb.nil | refine Stb.cons ?_))) : Run P r ops K p ⟨n, m, ds⟩ H := by
  rw [ev_ds (ds := ds)] at hx hy
  subst ho
  unfold stC at hv
  split at hv
  · cases hv
  · rename_i i hi
    have hI := info_of (ty_get hi)
    have fin : ∀ {N : Value → List SP → Prop}, N = (fun _ H' => H' = cl b cs' et :: R) → (∀ o : Oper, o.op = .store t x y → Ef P r o ⟨n, m, ds⟩ H N) → Run P r ops K p ⟨n, m, ds⟩ H := fun hN hE => by
      subst hN
      exact r_prm h hE (fun v' H' e => by subst e; exact fun _ s => Sat.tail s) (fun _ => hst) fun v' H' e => by subst e; exact q
    split at hv
    · rename_i vs
      split at hv
      · rename_i hl
        split at hv
        · cases hv
        · split at hv
          · rename_i hall
            have hz : vs.toList.length = i.size := Nat.eq_of_beq_eq_true hl
            exact fin rfl fun o ho => ef_storeS hI ho hx (by simpa using hy) hb (putC_spec _ _ _ _ hv) (allOne_spec _ hall) hz
          · cases hv
      · cases hv
    · rename_i u hu
      split at hv
      · rename_i hl
        have hz : i.size = 1 := Nat.eq_of_beq_eq_true hl
        split at hv
        · rename_i h1
          exact fin rfl fun o ho => ef_store1 (by rw [hz] at hI; exact hI) ho hx hy hb (setC_spec _ _ _ _ hv) h1
        · cases hv
      · cases hv

/-- a byte of a string of 256 -/
theorem r_ixs {d k : Nat} {x y : Operand} {t : TypeId} {s : ByteArray} {a : Nat} (q : ∀ v : Nat, v < 256 → Run P r ops K p' ⟨n, (d, .int .u8 (v : Int)) :: m, ds⟩ H)
    (h : stepM ops p n m = some (some d, .index t x y, k, p') := by rfl) (hx : Env.ev ⟨n, m, []⟩ x = some (.string s) := by rfl) (hy : Env.ev ⟨n, m, []⟩ y = some (.int .u8 (IntKind.u8.wrap (a : Int))) := by rfl)
    (hu : P.underlying t = some .string := by kernel_rfl) (hs : s.size = 256 := by rfl) : Run P r ops K p ⟨n, m, ds⟩ H := by
  rw [ev_ds (ds := ds)] at hx hy
  have hw : IntKind.u8.wrap (a : Int) = ((a % 256 : Nat) : Int) := wrap_nat .u8 rfl a
  have hlt : a % 256 < s.size := by rw [hs]; exact Nat.mod_lt _ (by decide)
  refine pure_of (v := .int .u8 ((s[a % 256].toNat : Nat) : Int)) h (fun o ho => qp_of (by simp [ho]) fun e w ha => ?_) (q _ (UInt8.toNat_lt _))
  have hsome : s[a % 256]? = some s[a % 256] := by simp [hlt]
  simp only [execOp, ho, ha.ev hx, ha.ev hy, Instr.index, asIntOf, run_underlying hu, Sem.run_bind, Sem.run_pure, Result.andThen_ok, hw, Int.toNat_natCast, hsome]
  rw [if_pos (Int.natCast_nonneg _)]
  simp

/-- a slice is cut, below its capacity's end -/
theorem r_cu [T : Ty P] {d k : Nat} {x : Operand} {t el : TypeId} {lo hi : Option Operand} {s bz b o l c : Nat} {z : List Value} {a1 : Value} {a2 : List Value} {a3 a4 : Nat} {lz hz : Int} (lo' hi' o2 l2 : Nat)
    (q : Run P r ops K p' ⟨n, (d, .slice (some ⟨b, o2, none⟩) l2 (c - lo')) :: m, ds⟩ H)
    (h : stepM ops p n m = some (some d, .slice t x lo hi none, k, p') := by rfl)
    (hx : Env.ev ⟨n, m, []⟩ x = some (.slice (some ⟨b, o, none⟩) l c) := by rfl) (hi0 : tget T.tab t = some ⟨.slice el s bz z, a1, a2, a3, a4⟩ := by rfl)
    (h1 : bnd n m 0 lo = some lz := by rfl) (h2 : bnd n m l hi = some hz := by rfl) (e1 : lz = (lo' : Int) := by first | rfl | omega) (e2 : hz = (hi' : Int) := by first | rfl | omega)
    (hr : lo' ≤ hi' ∧ hi' ≤ c := by omega) (hlt : lo' < c ∨ lo' = 0 := by omega) (ho : o2 = o + lo' * s := by omega) (hl2 : l2 = hi' - lo' := by omega) : Run P r ops K p ⟨n, m, ds⟩ H := by
  refine r_cut lo' hi' ?_ h hx hi0 h1 h2 e1 e2 hr
  have : (if c = lo' then o else o + lo' * s) = o2 := by
    rcases hlt with h | h
    · rw [if_neg (by omega), ho]
    · subst h; subst ho; split <;> simp
  rw [this, ← hl2]; exact q

/-! ### Elements of a list of assertions -/
theorem stars_out {l : List SP} {i : Nat} {A : SP} {R : List SP} (hi : l[i]? = some A) : Ent (grp l :: R) (A :: grp (l.eraseIdx i) :: R) := fun h s => by
  have s1 := Sat.grp_iff.1 s
  obtain ⟨hlt, rfl⟩ := List.getElem?_eq_some_iff.1 hi
  have e : l = l.take i ++ l[i] :: l.drop (i + 1) := by rw [← List.drop_eq_getElem_cons hlt, List.take_append_drop]
  have e2 : l.eraseIdx i = l.take i ++ l.drop (i + 1) := List.eraseIdx_eq_take_drop_succ l i
  have s2 : Sat (l[i] :: ((l.take i ++ l.drop (i + 1)) ++ R)) h := by
    refine Sat.perm ?_ (e ▸ s1)
    simp only [List.append_assoc, List.cons_append]
    exact List.perm_middle
  rw [e2]
  exact Sat.cons_mono (fun _ s => Sat.grp_iff.2 s) s2
theorem stars_in {l : List SP} {i : Nat} {A : SP} {R : List SP} (hi : i < l.length) : Ent (A :: grp (l.eraseIdx i) :: R) (grp (l.set i A) :: R) := fun h s => by
  have e2 : l.eraseIdx i = l.take i ++ l.drop (i + 1) := List.eraseIdx_eq_take_drop_succ l i
  have s1 : Sat (A :: ((l.take i ++ l.drop (i + 1)) ++ R)) h := Sat.cons_mono (fun _ s => Sat.grp_iff.1 s) (e2 ▸ s)
  refine Sat.grp_iff.2 ?_
  rw [List.set_eq_take_append_cons_drop, if_pos hi]
  refine Sat.perm ?_ s1
  simp only [List.append_assoc, List.cons_append]
  exact List.perm_middle.symm
theorem e_el {c : Code} {l : List SP} {A : SP} (i : Nat) (hs : Sel H (grp l) R) (hi : l[i]? = some A) (q : Ex P r c K e (A :: grp (l.eraseIdx i) :: R)) : Ex P r c K e H := q.ent ((hs.ent).trans (stars_out hi))
theorem r_el {l : List SP} {A : SP} (i : Nat) (hs : Sel H (grp l) R) (hi : l[i]? = some A) (q : Run P r ops K p e (A :: grp (l.eraseIdx i) :: R)) : Run P r ops K p e H := q.ent ((hs.ent).trans (stars_out hi))
/-- shut: in an entailment's goal -/
theorem n_el {l l' : List SP} {A : SP} {i : Nat} {X B : List SP} (hi : i < l.length) (he : l' = l.set i A) (h : Ent X (A :: grp (l.eraseIdx i) :: B)) : Ent X (grp l' :: B) := by
  subst he; exact h.trans (stars_in hi)
theorem stars_nil {R : List SP} : Ent R (grp [] :: R) := fun _ s => Sat.grp_iff.2 s
theorem stars_snoc {l : List SP} {A : SP} {R : List SP} : Ent (A :: grp l :: R) (grp (l ++ [A]) :: R) := fun h s => by
  refine Sat.grp_iff.2 ?_
  have s1 : Sat (A :: (l ++ R)) h := Sat.cons_mono (fun _ s => Sat.grp_iff.1 s) s
  refine Sat.perm ?_ s1
  simp only [List.append_assoc, List.cons_append, List.nil_append]
  exact List.perm_middle.symm
end
end Go.Sl
