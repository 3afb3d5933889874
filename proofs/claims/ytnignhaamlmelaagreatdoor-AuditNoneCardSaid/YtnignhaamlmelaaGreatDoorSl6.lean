/- The steps of a walk: quiet operations, loads, stores, new blocks, calls, and a function's contract from its body. -/
import Derived.Test.YtnignhaamlmelaaGreatDoorSl5
namespace Go.Sl
open Go

/-- a quiet step: what is known behind it, what must hold for it, what is left -/
def stepP (τ : TypeId → Option TyI) (ops : Array Oper) (p : Plan) (n : Nat) (m : List (Nat × Value)) : Option (List (Nat × Value) × Prop × Plan) :=
  match next ops p with
  | none => none
  | some (o, _, p') => match o.dst with
    | none => match wants ops ⟨n, m, []⟩ o with
      | some false => some (m, True, p')
      | _ => none
    | some d => match Nat.blt d n with
      | false => none
      | true => match wants ops ⟨n, m, []⟩ o with
        | some false => some ((d, undef) :: m, True, p')
        | some true => match pvC τ ⟨n, m, []⟩ o.op with
          | some (v, c) => some ((d, v) :: m, c, p')
          | none => none
        | none => none
/-- the next operation, if it is wanted -/
def stepM (ops : Array Oper) (p : Plan) (n : Nat) (m : List (Nat × Value)) : Option (Option Nat × Op × Nat × Plan) :=
  match next ops p with
  | none => none
  | some (o, k, p') => match okDst n o.dst with
    | false => none
    | true => match wants ops ⟨n, m, []⟩ o with
      | some true => some (o.dst, o.op, k, p')
      | _ => none
def putM (d : Option Nat) (v : Value) (m : List (Nat × Value)) : List (Nat × Value) := match d with
  | some d => (d, v) :: m
  | none => m

/-- the same, told whole -/
def putO (d : Option Nat) (v : Value) (m : List (Nat × Value)) : Option (List (Nat × Value)) := match d with
  | some d => some ((d, v) :: m)
  | none => some m
theorem putO_eq {d : Option Nat} {v : Value} {m m' : List (Nat × Value)} (h : putO d v m = some m') : putM d v m = m' := by
  cases d <;> simpa [putO, putM] using h
theorem wants_ds {ops : Array Oper} {n : Nat} {m : List (Nat × Value)} {ds : List Deferred} (o : Oper) : wants ops ⟨n, m, []⟩ o = wants ops ⟨n, m, ds⟩ o := rfl
theorem ev_ds {n : Nat} {m : List (Nat × Value)} {ds : List Deferred} (o : Operand) : Env.ev ⟨n, m, []⟩ o = Env.ev ⟨n, m, ds⟩ o := by cases o <;> rfl
theorem evs_ds {n : Nat} {m : List (Nat × Value)} {ds : List Deferred} : ∀ l, evs ⟨n, m, []⟩ l = evs ⟨n, m, ds⟩ l
  | [] => rfl
  | x :: l => by rw [evs, evs, ev_ds (ds := ds) x, evs_ds (ds := ds) l]
theorem evps_ds {n : Nat} {m : List (Nat × Value)} {ds : List Deferred} : ∀ l, evps ⟨n, m, []⟩ l = evps ⟨n, m, ds⟩ l
  | [] => rfl
  | (j, x) :: l => by rw [evps, evps, ev_ds (ds := ds) x, evps_ds (ds := ds) l]
theorem pvC_ds {τ : TypeId → Option TyI} {n : Nat} {m : List (Nat × Value)} {ds : List Deferred} (o : Op) : pvC τ ⟨n, m, []⟩ o = pvC τ ⟨n, m, ds⟩ o := by
  unfold pvC
  simp only [ev_ds (ds := ds), evs_ds (ds := ds), evps_ds (ds := ds)]

section
variable {P : Program} {r : Option Nat} {ops : Array Oper} {K : Ko} {p p' : Plan} {n : Nat} {m m' : List (Nat × Value)} {ds : List Deferred} {H R : List SP}

theorem r_p [T : Ty P] {c : Prop} (q : Run P r ops K p' ⟨n, m', ds⟩ H) (h : stepP (tget T.tab) ops p n m = some (m', c, p') := by rfl) (hc : c := by first | exact True.intro | omega | (simp only []; omega)) :
    Run P r ops K p ⟨n, m, ds⟩ H := by
  unfold stepP at h
  split at h
  · cases h
  · rename_i o k p1 hn
    split at h
    · rename_i hd
      split at h
      · rename_i hw
        cases h
        exact run_skip hn (by rw [← wants_ds]; exact hw) (by rw [hd]; rfl) (by rw [hd]; exact q)
      · cases h
    · rename_i d hd
      split at h
      · cases h
      · rename_i hlt
        split at h
        · rename_i hw
          cases h
          exact run_skip hn (by rw [← wants_ds]; exact hw) (by rw [hd]; exact hlt) (by rw [hd]; exact q)
        · rename_i hw
          split at h
          · rename_i v c' hv
            cases h
            exact run_pure hn (pvC_sound (by rw [← pvC_ds]; exact hv) hc) (by rw [← wants_ds]; exact hw) (by rw [hd]; exact hlt) (by rw [hd]; exact q)
          · cases h
        · cases h

theorem stepM_spec {d : Option Nat} {op : Op} {k : Nat} (h : stepM ops p n m = some (d, op, k, p')) :
    ∃ o, next ops p = some (o, k, p') ∧ o.dst = d ∧ o.op = op ∧ okDst n o.dst = true ∧ ∀ ds, wants ops ⟨n, m, ds⟩ o = some true := by
  unfold stepM at h
  split at h
  · cases h
  · rename_i o k' p1 hn
    split at h
    · cases h
    · rename_i hd
      split at h
      · rename_i hw
        cases h
        exact ⟨o, hn, rfl, rfl, hd, fun ds => by rw [← wants_ds]; exact hw⟩
      · cases h

theorem act_of {d : Option Nat} {op : Op} {k : Nat} {N : Value → List SP → Prop} (h : stepM ops p n m = some (d, op, k, p')) (hk : Nat.ble 2 k = true)
    (hE : ∀ o : Oper, o.op = op → Ef P r o ⟨n, m, ds⟩ H N) (q : ∀ v H', N v H' → Run P r ops K p' ⟨n, putM d v m, ds⟩ H') : Run P r ops K p ⟨n, m, ds⟩ H := by
  obtain ⟨o, h1, h2, h3, h4, h5⟩ := stepM_spec h
  refine run_act h1 (hE o h3) hk (h5 ds) h4 fun v H' hN => ?_
  have := q v H' hN
  subst h2
  cases hd : o.dst <;> rw [hd] at this <;> exact this
theorem read_of {d : Option Nat} {op : Op} {k : Nat} {v : Value} (h : stepM ops p n m = some (d, op, k, p')) (hk : Nat.ble 1 k = true)
    (hE : ∀ o : Oper, o.op = op → Qt P r o ⟨n, m, ds⟩ H v) (q : Run P r ops K p' ⟨n, putM d v m, ds⟩ H) : Run P r ops K p ⟨n, m, ds⟩ H := by
  obtain ⟨o, h1, h2, h3, h4, h5⟩ := stepM_spec h
  refine run_read h1 (hE o h3) hk (h5 ds) h4 ?_
  subst h2
  cases hd : o.dst <;> rw [hd] at q <;> exact q
theorem ef_of {o : Oper} {e : Env} {N : Value → List SP → Prop} (hd : ∀ c, o.op ≠ .defer c)
    (h : ∀ a w, Agree e a → Sat H (heapOf w) → ∃ v w' H', ((execOp a.eval o).run P w = .ok (.value v) w' ∨ ((execOp a.eval o).run P w = .ok .skip w' ∧ v = undef)) ∧ N v H' ∧ Sat H' (heapOf w')) : Ef P r o e H N :=
  fun a w ha hs => by
    unfold op1
    rw [Oper.semAt_eq _ _ _ hd]
    obtain ⟨v, w', H', h1 | ⟨h1, rfl⟩, h2, h3⟩ := h a w ha hs
    · rw [h1]; exact ⟨H', h2, h3⟩
    · rw [h1]; exact ⟨H', h2, h3⟩

/-! ### Loads -/
theorem scal_of {i : TyI} {t : TypeId} (h : i.Sound P t) (hs : isScal i.k = true) : TScal P t := by
  obtain ⟨k, z, zc, s, b⟩ := i
  cases k <;> simp [isScal] at hs <;> first | exact h.2.2 | exact h.2.2.2
theorem agg_of {i : TyI} {t : TypeId} (h : i.Sound P t) (hs : isScal i.k = false) : TAgg P t i.size := by
  obtain ⟨k, z, zc, s, b⟩ := i
  cases k <;> simp [isScal] at hs <;> first | exact h.2.2.2 | exact h.2.2.2.1
def ldC (τ : TypeId → Option TyI) (t : TypeId) (cs : List Value) (o : Nat) : Option Value := match τ t with
  | none => none
  | some i => match isScal i.k with
    | true => lget cs o
    | false => match subC cs o i.size with
      | some us => some (.agg us.toArray)
      | none => none
theorem qt_load1 {o : Oper} {x : Operand} {t et : TypeId} {b j : Nat} {cs : List Value} {v : Value} (hT : TScal P t) (ho : o.op = .load t x) (hx : Env.ev ⟨n, m, ds⟩ x = some (.pointer (some ⟨b, j, none⟩)))
    (hb : Tk H b cs et R) (hv : cs[j]? = some v) : Qt P r o ⟨n, m, ds⟩ H v :=
  qt_of (by simp [ho]) fun c w ha hS => by
    have h1 : w.cell? ⟨b, j, none⟩ = some v := by rw [cell_of (hb.get hS)]; exact hv
    simp [execOp, ho, ha.ev hx, Instr.loadAt, Instr.sureAddr, loadVar, run_isAgg_scal hT, h1]
theorem qt_loadS {o : Oper} {x : Operand} {t et : TypeId} {b j s : Nat} {cs vs : List Value} (hT : TAgg P t s) (ho : o.op = .load t x) (hx : Env.ev ⟨n, m, ds⟩ x = some (.pointer (some ⟨b, j, none⟩)))
    (hb : Tk H b cs et R) (hv : ∃ pre post, cs = pre ++ vs ++ post ∧ pre.length = j ∧ vs.length = s) : Qt P r o ⟨n, m, ds⟩ H (.agg vs.toArray) :=
  qt_of (by simp [ho]) fun c w ha hS => by
    have h1 := run_loadCells (P := P) (hb.get hS) hv
    simp [execOp, ho, ha.ev hx, Instr.loadAt, Instr.sureAddr, loadVar, run_isAgg_agg hT, run_sizeOf hT.size, h1]
theorem r_l [T : Ty P] {d k : Nat} {x : Operand} {t et : TypeId} {b j : Nat} {cs : List Value} {v : Value} (q : Run P r ops K p' ⟨n, (d, v) :: m, ds⟩ H)
    (h : stepM ops p n m = some (some d, .load t x, k, p') := by rfl) (hx : Env.ev ⟨n, m, []⟩ x = some (.pointer (some ⟨b, j, none⟩)) := by rfl)
    (hb : Tk H b cs et R := by infer_instance) (hv : ldC (tget T.tab) t cs j = some v := by rfl) (hk : Nat.ble 1 k = true := by rfl) : Run P r ops K p ⟨n, m, ds⟩ H := by
  rw [ev_ds (ds := ds)] at hx
  unfold ldC at hv
  split at hv
  · cases hv
  · rename_i i hi
    split at hv
    · rename_i hs
      exact read_of h hk (fun o ho => qt_load1 (scal_of (ty_get hi) hs) ho hx hb (by rwa [← lget_eq])) q
    · rename_i hs
      split at hv
      · rename_i us hus
        cases hv
        exact read_of h hk (fun o ho => qt_loadS (agg_of (ty_get hi) hs) ho hx hb (subC_spec _ _ _ _ hus)) q
      · cases hv
/-- a load of what is told otherwise: one cell -/
theorem r_li [T : Ty P] {d k : Nat} {x : Operand} {t et : TypeId} {b j : Nat} {cs : List Value} {v : Value} {i : TyI} (hv : cs[j]? = some v) (q : Run P r ops K p' ⟨n, (d, v) :: m, ds⟩ H)
    (h : stepM ops p n m = some (some d, .load t x, k, p') := by rfl) (hx : Env.ev ⟨n, m, []⟩ x = some (.pointer (some ⟨b, j, none⟩)) := by rfl)
    (hb : Tk H b cs et R := by infer_instance) (hi : tget T.tab t = some i := by rfl) (hs : isScal i.k = true := by rfl) (hk : Nat.ble 1 k = true := by rfl) : Run P r ops K p ⟨n, m, ds⟩ H := by
  rw [ev_ds (ds := ds)] at hx
  exact read_of h hk (fun o ho => qt_load1 (scal_of (ty_get hi) hs) ho hx hb hv) q
/-- a load of a struct that is told otherwise -/
theorem r_lj [T : Ty P] {d k : Nat} {x : Operand} {t et : TypeId} {b j s : Nat} {cs vs : List Value} {i : TyI} (hv : ∃ pre post, cs = pre ++ vs ++ post ∧ pre.length = j ∧ vs.length = s) (q : Run P r ops K p' ⟨n, (d, .agg vs.toArray) :: m, ds⟩ H)
    (h : stepM ops p n m = some (some d, .load t x, k, p') := by rfl) (hx : Env.ev ⟨n, m, []⟩ x = some (.pointer (some ⟨b, j, none⟩)) := by rfl)
    (hb : Tk H b cs et R := by infer_instance) (hi : tget T.tab t = some i := by rfl) (hs : isScal i.k = false := by rfl) (hz : i.size = s := by rfl) (hk : Nat.ble 1 k = true := by rfl) : Run P r ops K p ⟨n, m, ds⟩ H := by
  rw [ev_ds (ds := ds)] at hx
  subst hz
  exact read_of h hk (fun o ho => qt_loadS (agg_of (ty_get hi) hs) ho hx hb hv) q
/-- from the package-level table -/
theorem r_lt [T : Ty P] {d k : Nat} {x : Operand} {t : TypeId} {j v : Nat} {i : TyI} (hv : tab64[j]? = some v) (q : Run P r ops K p' ⟨n, (d, .int .u8 (v : Int)) :: m, ds⟩ H)
    (h : stepM ops p n m = some (some d, .load t x, k, p') := by rfl) (hx : Env.ev ⟨n, m, []⟩ x = some (.pointer (some ⟨0, j, none⟩)) := by rfl)
    (hi : tget T.tab t = some i := by rfl) (hs : isScal i.k = true := by rfl) (hk : Nat.ble 1 k = true := by rfl) : Run P r ops K p ⟨n, m, ds⟩ H := by
  rw [ev_ds (ds := ds)] at hx
  exact read_of h hk (fun o ho => qt_of (by simp [ho]) fun c w ha hS => by
    obtain ⟨cs, t', fz, e1, e2⟩ := Sat.amb hS
    have h1 : w.cell? ⟨0, j, none⟩ = some (.int .u8 v) := by
      have e1 : w.heap[0]? = some (.cells cs t' fz) := e1
      simp only [World.cell?, e1]
      exact e2 j v hv
    simp [execOp, ho, ha.ev hx, Instr.loadAt, Instr.sureAddr, loadVar, run_isAgg_scal (scal_of (ty_get hi) hs), h1]) q

/-! ### Stores -/
def allOne : List Value → Bool
  | [] => true
  | v :: vs => match oneCell v with
    | true => allOne vs
    | false => false
theorem allOne_spec : ∀ (vs : List Value), allOne vs = true → ∀ v ∈ vs, oneCell v = true
  | [], _, v, hv => by cases hv
  | u :: vs, h, v, hv => by
    simp only [allOne] at h
    split at h
    · rename_i h1
      rcases List.mem_cons.1 hv with rfl | hv
      · exact h1
      · exact allOne_spec vs h v hv
    · cases h
def stC (τ : TypeId → Option TyI) (t : TypeId) (cs : List Value) (o : Nat) (v : Value) : Option (List Value) := match τ t with
  | none => none
  | some i => match v with
    | .agg vs => match Nat.beq vs.toList.length i.size with
      | true => match isScal i.k with
        | true => none
        | false => match allOne vs.toList with
          | true => putC cs o vs.toList
          | false => none
      | false => none
    | v => match Nat.beq i.size 1 with
      | true => match oneCell v with
        | true => setC cs o v
        | false => none
      | false => none
theorem ef_store1 {o : Oper} {x y : Operand} {t et : TypeId} {b j : Nat} {cs cs' : List Value} {v : Value} (hT : ∃ i, P.info? t = some i ∧ i.size = 1) (ho : o.op = .store t x y)
    (hx : Env.ev ⟨n, m, ds⟩ x = some (.pointer (some ⟨b, j, none⟩))) (hy : Env.ev ⟨n, m, ds⟩ y = some v) (hb : Tk H b cs et R) (hv : cs.set j v = cs' ∧ j < cs.length) (h1 : oneCell v = true) :
    Ef P r o ⟨n, m, ds⟩ H fun _ H' => H' = cl b cs' et :: R :=
  ef_of (by simp [ho]) fun c w ha hS => by
    have hget := hb.get hS
    obtain ⟨e1, e2⟩ := hv
    have hc : w.cell? ⟨b, j, none⟩ = some cs[j] := by rw [cell_of hget]; simp [e2]
    have hcells : v.cells = #[v] := by cases v <;> simp_all [Value.cells, oneCell]
    refine ⟨undef, w.setCell ⟨b, j, none⟩ v, _, .inr ⟨?_, rfl⟩, rfl, ?_⟩
    · simp [execOp, ho, ha.ev hx, ha.ev hy, Instr.storeAt, Instr.sureAddr, storeVar, run_sizeOf hT, hcells, storeCells, add_mk, run_store1 h1 hc (frozen_of hget)]
    · rw [← e1]; exact sat_setCell (hb.out.ent _ hS)
theorem ef_storeS {o : Oper} {x y : Operand} {t et : TypeId} {b j s : Nat} {cs cs' vs : List Value} (hT : ∃ i, P.info? t = some i ∧ i.size = s) (ho : o.op = .store t x y)
    (hx : Env.ev ⟨n, m, ds⟩ x = some (.pointer (some ⟨b, j, none⟩))) (hy : Env.ev ⟨n, m, ds⟩ y = some (.agg vs.toArray)) (hb : Tk H b cs et R)
    (hv : ∃ pre old post, cs = pre ++ old ++ post ∧ cs' = pre ++ vs ++ post ∧ pre.length = j ∧ old.length = vs.length) (h1 : ∀ v ∈ vs, oneCell v = true) (hz' : vs.length = s) :
    Ef P r o ⟨n, m, ds⟩ H fun _ H' => H' = cl b cs' et :: R :=
  ef_of (by simp [ho]) fun c w ha hS => by
    have hget := hb.get hS
    obtain ⟨pre, old, post, e1, e2, e3, e4⟩ := hv
    obtain ⟨w', cs'', g1, g2, g3, g4, g5⟩ := run_storeCells (P := P) (o := j) vs w cs 0 h1 hget (by rw [e1]; simp; omega)
    have : cs'' = cs' := by
      rw [g2, e1, e2]
      subst e3
      simp [← e4]
    subst this
    refine ⟨undef, w', _, .inr ⟨?_, rfl⟩, rfl, Sat.pt_set (hb.out.ent _ hS) g3 g4 g5⟩
    simp only [execOp, ho, ha.ev hx, ha.ev hy, Instr.storeAt, Instr.sureAddr, storeVar, Value.cells, Sem.run_bind, Sem.run_pure, Result.andThen_ok, run_sizeOf hT]
    rw [if_neg (by simp [hz'])]
    simp [g1]
theorem info_of {i : TyI} {t : TypeId} (h : i.Sound P t) : ∃ x, P.info? t = some x ∧ x.size = i.size := by
  obtain ⟨x, h1, _, h2, _⟩ := h.1.out
  exact ⟨x, h1, h2⟩
theorem r_s [T : Ty P] {k : Nat} {x y : Operand} {t et : TypeId} {b j : Nat} {cs cs' : List Value} {v : Value} (q : Run P r ops K p' ⟨n, m, ds⟩ (cl b cs' et :: R))
    (h : stepM ops p n m = some (none, .store t x y, k, p') := by rfl) (hx : Env.ev ⟨n, m, []⟩ x = some (.pointer (some ⟨b, j, none⟩)) := by rfl) (hy : Env.ev ⟨n, m, []⟩ y = some v := by rfl)
    (hb : Tk H b cs et R := by infer_instance) (hv : stC (tget T.tab) t cs j v = some cs' := by rfl) (hk : Nat.ble 2 k = true := by rfl) : Run P r ops K p ⟨n, m, ds⟩ H := by
  rw [ev_ds (ds := ds)] at hx hy
  unfold stC at hv
  split at hv
  · cases hv
  · rename_i i hi
    have hI := info_of (ty_get hi)
    split at hv
    · rename_i vs
      split at hv
      · rename_i hl
        split at hv
        · cases hv
        · split at hv
          · rename_i hall
            have hz : vs.toList.length = i.size := Nat.eq_of_beq_eq_true hl
            exact act_of h hk (fun o ho => ef_storeS hI ho hx (by simpa using hy) hb (putC_spec _ _ _ _ hv) (allOne_spec _ hall) hz) fun v' H' e => by subst e; exact q
          · cases hv
      · cases hv
    · rename_i u hu
      split at hv
      · rename_i hl
        have hz : i.size = 1 := Nat.eq_of_beq_eq_true hl
        split at hv
        · rename_i h1
          exact act_of h hk (fun o ho => ef_store1 (by rw [hz] at hI; exact hI) ho hx hy hb (setC_spec _ _ _ _ hv) h1) fun v' H' e => by subst e; exact q
        · cases hv
      · cases hv
/-- a store into what is told otherwise: one cell -/
theorem r_si [T : Ty P] {k : Nat} {x y : Operand} {t et : TypeId} {b j : Nat} {cs : List Value} {v : Value} {i : TyI} (hv : j < cs.length) (q : Run P r ops K p' ⟨n, m, ds⟩ (cl b (cs.set j v) et :: R))
    (h : stepM ops p n m = some (none, .store t x y, k, p') := by rfl) (hx : Env.ev ⟨n, m, []⟩ x = some (.pointer (some ⟨b, j, none⟩)) := by rfl) (hy : Env.ev ⟨n, m, []⟩ y = some v := by rfl)
    (hb : Tk H b cs et R := by infer_instance) (hi : tget T.tab t = some i := by rfl) (hz : i.size = 1 := by rfl) (h1 : oneCell v = true := by rfl) (hk : Nat.ble 2 k = true := by rfl) : Run P r ops K p ⟨n, m, ds⟩ H := by
  rw [ev_ds (ds := ds)] at hx hy
  have hI := info_of (ty_get hi)
  rw [hz] at hI
  exact act_of h hk (fun o ho => ef_store1 hI ho hx hy hb ⟨rfl, hv⟩ h1) fun v' H' e => by subst e; exact q
theorem r_sj [T : Ty P] {k : Nat} {x y : Operand} {t et : TypeId} {b j : Nat} {cs cs' vs : List Value} {i : TyI} (hv : ∃ pre old post, cs = pre ++ old ++ post ∧ cs' = pre ++ vs ++ post ∧ pre.length = j ∧ old.length = vs.length)
    (q : Run P r ops K p' ⟨n, m, ds⟩ (cl b cs' et :: R))
    (h : stepM ops p n m = some (none, .store t x y, k, p') := by rfl) (hx : Env.ev ⟨n, m, []⟩ x = some (.pointer (some ⟨b, j, none⟩)) := by rfl) (hy : Env.ev ⟨n, m, []⟩ y = some (.agg vs.toArray) := by rfl)
    (hb : Tk H b cs et R := by infer_instance) (hi : tget T.tab t = some i := by rfl) (hz : vs.length = i.size := by rfl) (h1 : allOne vs = true := by rfl) (hk : Nat.ble 2 k = true := by rfl) : Run P r ops K p ⟨n, m, ds⟩ H := by
  rw [ev_ds (ds := ds)] at hx hy
  exact act_of h hk (fun o ho => ef_storeS (info_of (ty_get hi)) ho hx hy hb hv (allOne_spec _ h1) hz) fun v' H' e => by subst e; exact q

/-! ### New blocks -/
theorem r_a [T : Ty P] {d k : Nat} {t : TypeId} {i : TyI} {zc : List Value} (q : ∀ b, Run P r ops K p' ⟨n, (d, .pointer (some ⟨b, 0, none⟩)) :: m, ds⟩ (cl b zc t :: H))
    (h : stepM ops p n m = some (some d, .alloc t, k, p') := by rfl) (hi : tget T.tab t = some i := by rfl) (hz : i.zc = zc := by rfl) (hk : Nat.ble 2 k = true := by rfl) : Run P r ops K p ⟨n, m, ds⟩ H := by
  subst hz
  have hI := ty_get hi
  exact act_of (N := fun v H' => ∃ b, v = .pointer (some ⟨b, 0, none⟩) ∧ H' = cl b i.zc t :: H) h hk (fun o ho => ef_of (by simp [ho]) fun c w ha hS => by
    refine ⟨_, w.alloc (.cells i.z.cells t), _, .inl ?_, ⟨w.heap.size, rfl, rfl⟩, ?_⟩
    · simp [execOp, ho, Instr.alloc, run_zeroValue hI.1, newVar, newRow]
    · have := sat_alloc (o := .cells i.z.cells t) hS
      rw [hI.2.1] at this ⊢
      exact this) fun v H' ⟨b, e1, e2⟩ => by subst e1; subst e2; exact q b
theorem r_b {d k : Nat} {x : Operand} {t : TypeId} {v : Value} {vs : List Value} (q : ∀ b, Run P r ops K p' ⟨n, (d, .pointer (some ⟨b, 0, none⟩)) :: m, ds⟩ (cl b vs t :: H))
    (h : stepM ops p n m = some (some d, .box t x, k, p') := by rfl) (hx : Env.ev ⟨n, m, []⟩ x = some v := by rfl) (hv : v.cells = vs.toArray := by rfl) (hk : Nat.ble 2 k = true := by rfl) : Run P r ops K p ⟨n, m, ds⟩ H := by
  rw [ev_ds (ds := ds)] at hx
  exact act_of (N := fun u H' => ∃ b, u = .pointer (some ⟨b, 0, none⟩) ∧ H' = cl b vs t :: H) h hk (fun o ho => ef_of (by simp [ho]) fun c w ha hS => by
    refine ⟨_, w.alloc (.cells v.cells t), _, .inl ?_, ⟨w.heap.size, rfl, rfl⟩, ?_⟩
    · simp [execOp, ho, ha.ev hx, Instr.box, newVar, newRow]
    · have := sat_alloc (o := .cells v.cells t) hS
      rw [hv] at this ⊢
      exact this) fun v H' ⟨b, e1, e2⟩ => by subst e1; subst e2; exact q b

/-! ### Calls -/
theorem ef_call {f : FuncId} {o : Oper} {e : Env} {args : List Value} {Pre : List SP} {Q : Value → List SP → Prop} (hd : ∀ c, o.op ≠ .defer c) (C : Ct P f args Pre Q) (hF : Ent H (Pre ++ R))
    (h : ∀ a w, Agree e a → (execOp a.eval o).run P w = .ok (.enter f args.toArray) w) : Ef P r o e H fun v H' => ∃ L, H' = L ++ R ∧ Q v L := fun a w ha hs => by
  unfold op1
  rw [Oper.semAt_eq _ _ _ hd, h a w ha]
  exact (C R w (hF _ hs)).mono fun e w' ⟨v, L, h1, h2, h3⟩ => ⟨v, h1, _, ⟨L, rfl, h2⟩, h3⟩

/-- whom an operation calls, and with what -/
def callC (e : Env) : Op → Option (FuncId × List Value)
  | .call ⟨.value (.func f), xs, _⟩ => match evs e xs.toList with
    | some vs => some (f, vs)
    | none => none
  | .call ⟨.value y, xs, _⟩ => match e.ev y with
    | some (.func (.func f) us cs) => match evs e xs.toList with
      | some vs => some (f, us.toList ++ (vs ++ cs.toList))
      | none => none
    | _ => none
  | _ => none
theorem callC_spec {e : Env} {o : Oper} {f : FuncId} {vs : List Value} (hf : TFun P f) (h : callC e o.op = some (f, vs)) :
    (∀ c, o.op ≠ .defer c) ∧ ∀ a w, Agree e a → (execOp a.eval o).run P w = .ok (.enter f vs.toArray) w := by
  obtain ⟨d, op, ty, pos, aft, g⟩ := o
  simp only at h ⊢
  unfold callC at h
  split at h
  · split at h
    · rename_i hx
      cases h
      exact ⟨by simp, fun a w ha => by simp [execOp, resolve, Act.eval, Deferred.ofValue, invoke, ha.evsA hx, run_callFunc hf]⟩
    · cases h
  · split at h
    · rename_i hy
      split at h
      · rename_i hx
        cases h
        refine ⟨by simp, fun a w ha => ?_⟩
        have e2 := ha.ev hy
        simp [execOp, resolve, e2, Deferred.ofValue, invoke, ha.evsA hx, run_callFunc hf]
      · cases h
    · cases h
  · cases h
/-- what a walk calls next -/
theorem callC_ds (op : Op) : callC ⟨n, m, []⟩ op = callC ⟨n, m, ds⟩ op := by
  unfold callC
  simp only [ev_ds (ds := ds), evs_ds (ds := ds)]

/-- Whoever calls: any results. -/
theorem r_call {f : FuncId} {d : Option Nat} {op : Op} {k : Nat} {vs : List Value} {Pre : List SP} {Q : Value → List SP → Prop} [hf : TFun P f] (C : Ct P f vs Pre Q)
    (q : ∀ v L, Q v L → Run P r ops K p' ⟨n, putM d v m, ds⟩ (L ++ R))
    (h : stepM ops p n m = some (d, op, k, p') := by rfl) (hx : callC ⟨n, m, []⟩ op = some (f, vs) := by rfl)
    (hF : Frm H Pre R := by repeat (first | exact Frm.nil _ | apply Frm.cons | exact Sel.here _ _ | apply Sel.there))
    (hk : Nat.ble 2 k = true := by rfl) : Run P r ops K p ⟨n, m, ds⟩ H := by
  rw [callC_ds (ds := ds)] at hx
  exact act_of (N := fun v H' => ∃ L, H' = L ++ R ∧ Q v L) h hk (fun o ho => by
    subst ho
    obtain ⟨h1, h2⟩ := callC_spec hf hx
    exact ef_call h1 C hF.ent h2) fun v H' ⟨L, e, hq⟩ => by subst e; exact q v L hq
/-- one result and one heap -/
def det (V : Value) (L : List SP) : Value → List SP → Prop := fun v l => v = V ∧ l = L
theorem r_c {f : FuncId} {d : Option Nat} {op : Op} {k : Nat} {vs : List Value} {Pre L M : List SP} {V : Value} [hf : TFun P f] (C : Ct P f vs Pre (det V L))
    (q : Run P r ops K p' ⟨n, m', ds⟩ M)
    (h : stepM ops p n m = some (d, op, k, p') := by rfl) (hx : callC ⟨n, m, []⟩ op = some (f, vs) := by rfl)
    (hF : Frm H Pre R := by repeat (first | exact Frm.nil _ | apply Frm.cons | exact Sel.here _ _ | apply Sel.there))
    (ha : app L R = some M := by rfl) (hm : putO d V m = some m' := by rfl) (hk : Nat.ble 2 k = true := by rfl) : Run P r ops K p ⟨n, m, ds⟩ H :=
  r_call C (fun v l ⟨e1, e2⟩ => by subst e1; subst e2; rw [app_eq _ _ _ ha, putO_eq hm]; exact q) h hx hF hk
/-- results and heaps by a ghost, of which something is known -/
def exi {X : Sort _} (V : X → Value) (L : X → List SP) (φ : X → Prop) : Value → List SP → Prop := fun v l => ∃ x, φ x ∧ v = V x ∧ l = L x
theorem r_x {X : Sort _} {f : FuncId} {d : Option Nat} {op : Op} {k : Nat} {vs : List Value} {Pre : List SP} {V : X → Value} {L M : X → List SP} {φ : X → Prop} {m' : X → List (Nat × Value)} [hf : TFun P f] (C : Ct P f vs Pre (exi V L φ))
    (q : ∀ x, φ x → Run P r ops K p' ⟨n, m' x, ds⟩ (M x))
    (h : stepM ops p n m = some (d, op, k, p') := by rfl) (hx : callC ⟨n, m, []⟩ op = some (f, vs) := by rfl)
    (hF : Frm H Pre R := by repeat (first | exact Frm.nil _ | apply Frm.cons | exact Sel.here _ _ | apply Sel.there))
    (ha : ∀ x, app (L x) R = some (M x) := by intro _; rfl) (hm : ∀ x, putO d (V x) m = some (m' x) := by intro _; rfl) (hk : Nat.ble 2 k = true := by rfl) : Run P r ops K p ⟨n, m, ds⟩ H :=
  r_call C (fun v l ⟨x, hp, e1, e2⟩ => by subst e1; subst e2; rw [app_eq _ _ _ (ha x), putO_eq (hm x)]; exact q x hp) h hx hF hk
/-! ### A function's contract from its body -/
def Kt.body (P : Program) (fn : Func) (rs : List ResultVar) (R : List SP) (Q : Value → List SP → Prop) : Kt := fun x a w =>
  fn.results = rs.toArray → bodyPostM (Fw none) 0 P fn (fun e w' => ∃ v L, e = .returned v ∧ Q v L ∧ Sat (L ++ R) (heapOf w')) x a w

/-- the arguments as an environment -/
def argEnv : Nat → List Value → List (Nat × Value)
  | _, [] => []
  | j, v :: vs => (j, v) :: argEnv (j + 1) vs
theorem lk_argEnv : ∀ (vs : List Value) (j t : Nat) (v : Value), lk (argEnv j vs) t = some v → j ≤ t ∧ vs[t - j]? = some v
  | [], _, _, _, h => by simp [argEnv, lk] at h
  | u :: vs, j, t, v, h => by
    simp only [argEnv, lk] at h
    cases hb : Nat.beq t j with
    | true =>
      have := Nat.eq_of_beq_eq_true hb; subst this
      rw [hb] at h; simp at h; subst h; simp
    | false =>
      rw [hb] at h; simp only [cond_false] at h
      obtain ⟨h1, h2⟩ := lk_argEnv vs (j + 1) t v h
      refine ⟨by omega, ?_⟩
      rw [show t - j = (t - (j + 1)) + 1 by omega]; simpa using h2


theorem ct_intro {f : FuncId} {fn : Func} {c : Code} {N : Nat} {args : List Value} {Pre : List SP} {Q : Value → List SP → Prop} (hf : P.funcs[f]? = some fn) (hb : fn.body = some c) (hn : fn.ntmps = N)
    {rs : List ResultVar} (hrs : fn.results = rs.toArray) (h : ∀ R, Ex P none c (.sem (Kt.body P fn rs R Q)) ⟨N, argEnv 0 args, []⟩ (Pre ++ R)) (hl : Nat.ble args.length N = true := by rfl) : Ct P f args Pre Q := fun R w hs => by
  refine callsIn_of_wp_marks hf hb trivial ?_
  refine wpIn_mono (h R _ w ⟨?_, fun t v hv => ?_, rfl⟩ hs).wpIn (fun x a w q => q hrs)
  · have : args.length ≤ N := by simpa using hl
    simp [hn]; omega
  · obtain ⟨_, h2⟩ := lk_argEnv _ _ _ _ hv
    have hlt : t < args.length := by
      have := (List.getElem?_eq_some_iff.1 h2).1; simpa using this
    simp only [Nat.sub_zero] at h2
    simp [Array.getElem?_append, hlt]
    exact (List.getElem?_eq_some_iff.1 h2).2

/-- the results, read at the return -/
inductive Res (P : Program) [T : Ty P] (e : Env) (H : List SP) : List ResultVar → List Value → Prop
  | nil : Res P e H [] []
  | tmp {t : Nat} {v : Value} {rs : List ResultVar} {vs : List Value} (h : lk e.m t = some v) (k : Res P e H rs vs) : Res P e H (.tmp t :: rs) (v :: vs)
  | cell {t b o : Nat} {ty et : TypeId} {cs : List Value} {v : Value} {R : List SP} {rs : List ResultVar} {vs : List Value} {i : TyI} (h : lk e.m t = some (.pointer (some ⟨b, o, none⟩))) (hi : tget T.tab ty = some i) (hs : isScal i.k = true) (hb : Sel H (cl b cs et) R) (hv : lget cs o = some v)
      (k : Res P e H rs vs) : Res P e H (.cell t ty :: rs) (v :: vs)
  | cellS {t b o : Nat} {ty et : TypeId} {cs us : List Value} {R : List SP} {rs : List ResultVar} {vs : List Value} {i : TyI} (h : lk e.m t = some (.pointer (some ⟨b, o, none⟩))) (hi : tget T.tab ty = some i) (hs : isScal i.k = false) (hb : Sel H (cl b cs et) R) (hv : subC cs o i.size = some us)
      (k : Res P e H rs vs) : Res P e H (.cell t ty :: rs) (.agg us.toArray :: vs)

def resOne (tmps : Array Value) : ResultVar → Sem Value
  | .tmp t => pure (tmps.getD t undef)
  | .cell b t => do loadVar t (← asAddr (tmps.getD b undef))

theorem Res.run [T : Ty P] {e : Env} {rs : List ResultVar} {vs : List Value} (h : Res P e H rs vs) {a : Act} {w : World} (ha : Agree e a) (hs : Sat H (heapOf w)) :
    (rs.mapM (resOne a.tmps)).run P w = .ok vs w := by
  have hev : ∀ {t : Nat} {v : Value}, lk e.m t = some v → a.tmps.getD t undef = v := fun {t v} h => by
    rw [Array.getD_eq_getD_getElem?, ha.val t v h]; rfl
  induction h with
  | nil => simp
  | @tmp t v rs vs h k ih =>
    have h0 : (resOne a.tmps (.tmp t)).run P w = .ok v w := by
      show (pure (a.tmps.getD t undef) : Sem Value).run P w = _
      rw [hev h]; rfl
    simp only [List.mapM_cons, Sem.run_bind, h0, Sem.run_pure, Result.andThen_ok, ih]
  | @cell t b o ty et cs v R rs vs i h hi hs' hb hv k ih =>
    have hsc := scal_of (ty_get hi) hs'
    have hget : w.heap[b]? = some (.cells cs.toArray et (0, 0)) := Sat.pt_get (hb.ent _ hs)
    have h1 : w.cell? ⟨b, o, none⟩ = some v := by rw [cell_of hget, ← lget_eq]; exact hv
    have h0 : (resOne a.tmps (.cell t ty)).run P w = .ok v w := by
      unfold resOne
      simp only [Sem.run_bind, hev h, asAddr, Sem.run_pure, Result.andThen_ok, loadVar, run_isAgg_scal hsc, Bool.false_eq_true, if_false, run_load, h1]
    simp only [List.mapM_cons, Sem.run_bind, h0, Sem.run_pure, Result.andThen_ok, ih]
  | @cellS t b o ty et cs us R rs vs i h hi hs' hb hv k ih =>
    have hsc := agg_of (ty_get hi) hs'
    have hget : w.heap[b]? = some (.cells cs.toArray et (0, 0)) := Sat.pt_get (hb.ent _ hs)
    have h1 := run_loadCells (P := P) hget (subC_spec _ _ _ _ hv)
    have h0 : (resOne a.tmps (.cell t ty)).run P w = .ok (.agg us.toArray) w := by
      unfold resOne
      simp only [Sem.run_bind, hev h, asAddr, Sem.run_pure, Result.andThen_ok, loadVar, run_isAgg_agg hsc, if_true, run_sizeOf hsc.size, h1]
    simp only [List.mapM_cons, Sem.run_bind, h0, Sem.run_pure, Result.andThen_ok, ih]

def tup : List Value → Value
  | [v] => v
  | vs => .tuple vs.toArray

theorem run_results [T : Ty P] {fn : Func} {e : Env} {vs : List Value} (h : Res P e H fn.results.toList vs) {a : Act} {w : World} (ha : Agree e a) (hs : Sat H (heapOf w)) :
    (results fn a.tmps).run P w = .ok (tup vs) w := by
  have h1 := h.run ha hs
  have e : results fn a.tmps = (do
      let vs ← fn.results.mapM (resOne a.tmps)
      pure (if h : vs.size = 1 then vs[0] else .tuple vs)) := by
    unfold results
    congr 1
  rw [e, ← Array.toArray_toList (xs := fn.results), List.mapM_toArray]
  simp only [Sem.run_bind, Sem.run_map, h1, Result.andThen_ok]
  cases vs with
  | nil => simp [tup]
  | cons v vs => cases vs with
    | nil => simp [tup]
    | cons u vs => simp [tup]

/-- H' is in H, with whatever else -/
inductive Prm : List SP → List SP → Prop
  | refl (H : List SP) : Prm H H
  | take {H H1 L : List SP} {A : SP} (h : Sel H A H1) (k : Prm H1 L) : Prm H (A :: L)
  | drop {H L : List SP} {A : SP} (k : Prm H L) : Prm (A :: H) L
theorem Prm.ent {H L : List SP} (h : Prm H L) : Ent H L := by
  induction h with
  | refl => exact Ent.refl _
  | take h _ ih => exact h.ent.trans (Ent.cons ih)
  | drop _ ih => exact fun _ s => ih _ (Sat.tail s)


theorem body_end [T : Ty P] {fn : Func} {Q : Value → List SP → Prop} {vs : List Value} {rs : List ResultVar} (q : ∃ L, Q (tup vs) L ∧ Ent H (L ++ R)) (hr : Res P ⟨n, m, []⟩ H rs vs) (x : Exit) (hx : x = .ret ∨ x = .normal) (a : Act) (w : World)
    (ha : Agree ⟨n, m, []⟩ a) (hs : Sat H (heapOf w)) : Kt.body P fn rs R Q x a w := fun hrs => by
  have hr : Res P ⟨n, m, []⟩ H fn.results.toList vs := by rw [hrs]; exact hr
  obtain ⟨L, q, hE⟩ := q
  have : LeavesInM (Fw none) 0 P fn a.tmps (fun e w' => ∃ v L, e = .returned v ∧ Q v L ∧ Sat (L ++ R) (heapOf w')) a.defers .returning w := by
    rw [show a.defers = [] from ha.ds]
    exact ⟨_, run_results hr ha hs, _, L, rfl, q, hE _ hs⟩
  rcases hx with rfl | rfl <;> exact this
/-- the end of a body -/
def isEnd : Code → Bool
  | .ret => true
  | .skip => true
  | _ => false
theorem e_ret [T : Ty P] {c : Code} {fn : Func} {Q : Value → List SP → Prop} {vs : List Value} {rs : List ResultVar} (q : ∃ L, Q (tup vs) L ∧ Ent H (L ++ R)) (hc : isEnd c = true := by rfl)
    (hr : Res P ⟨n, m, []⟩ H rs vs := by repeat (first | exact Res.nil | apply Res.tmp rfl | (apply Res.cellS rfl rfl rfl; (repeat (first | exact Sel.here _ _ | apply Sel.there)); rfl) | (apply Res.cell rfl rfl rfl; (repeat (first | exact Sel.here _ _ | apply Sel.there)); rfl))) :
    Ex P none c (.sem (Kt.body P fn rs R Q)) ⟨n, m, []⟩ H := fun a w ha hs => by
  cases c with
  | ret => exact body_end q hr .ret (.inl rfl) a w ha hs
  | skip => exact body_end q hr .normal (.inr rfl) a w ha hs
  | _ => cases hc
theorem e_ret0 [T : Ty P] {c : Code} {fn : Func} {V : Value} {L M : List SP} {vs : List Value} {rs : List ResultVar} (hE : Ent H M) (hc : isEnd c = true := by rfl)
    (hr : Res P ⟨n, m, []⟩ H rs vs := by repeat (first | exact Res.nil | apply Res.tmp rfl | (apply Res.cellS rfl rfl rfl; (repeat (first | exact Sel.here _ _ | apply Sel.there)); rfl) | (apply Res.cell rfl rfl rfl; (repeat (first | exact Sel.here _ _ | apply Sel.there)); rfl)))
    (hV : tup vs = V := by rfl) (ha : app L R = some M := by rfl) :
    Ex P none c (.sem (Kt.body P fn rs R (det V L))) ⟨n, m, []⟩ H :=
  e_ret ⟨L, ⟨hV, rfl⟩, by rw [app_eq _ _ _ ha]; exact hE⟩ hc hr
theorem e_retx [T : Ty P] {X : Sort _} {c : Code} {fn : Func} {V : X → Value} {L : X → List SP} {φ : X → Prop} {M : List SP} {vs : List Value} {rs : List ResultVar} (x : X) (hp : φ x) (hE : Ent H M) (hc : isEnd c = true := by rfl)
    (hr : Res P ⟨n, m, []⟩ H rs vs := by repeat (first | exact Res.nil | apply Res.tmp rfl | (apply Res.cellS rfl rfl rfl; (repeat (first | exact Sel.here _ _ | apply Sel.there)); rfl) | (apply Res.cell rfl rfl rfl; (repeat (first | exact Sel.here _ _ | apply Sel.there)); rfl)))
    (hV : tup vs = V x := by rfl) (ha : app (L x) R = some M := by rfl) :
    Ex P none c (.sem (Kt.body P fn rs R (exi V L φ))) ⟨n, m, []⟩ H :=
  e_ret ⟨L x, ⟨x, hp, hV, rfl⟩, by rw [app_eq _ _ _ ha]; exact hE⟩ hc hr

/-! ### Jumps, ahead -/
def moves : Code → Ko → Bool
  | .seq .., _ => true
  | .block .., _ => true
  | .skip, .seq .. => true
  | .skip, .block .. => true
  | .exit _, .sem _ => false
  | .exit _, _ => true
  | .ret, .sem _ => false
  | .ret, _ => true
  | _, _ => false
theorem e_j {e : Env} {c c' : Code} {K' : Ko} (q : Ex P r c' K' e H) (_hm : moves c K = true := by rfl) (h : ctl 200 c K = some (c', K') := by rfl) : Ex P r c K e H := e_c q h
end

/-! ### Opening and shutting what a symbolic heap holds -/
theorem ent_open {α : Sort _} {A : α → List SP} {H : List SP} : ∀ h, Sat ((ex fun x => grp (A x)) :: H) h → ∃ x, Sat (A x ++ H) h := fun h s => by
  obtain ⟨x, s⟩ := Sat.ex_iff.1 s
  exact ⟨x, Sat.grp_iff.1 s⟩
theorem ent_shut {α : Sort _} {A : α → List SP} {H : List SP} (x : α) : Ent (A x ++ H) ((ex fun x => grp (A x)) :: H) := fun h s =>
  Sat.ex_iff.2 ⟨x, Sat.grp_iff.2 s⟩
theorem ent_pu {p : Prop} {H : List SP} (hp : p) : Ent H (pu p :: H) := fun _ s => Sat.pu_intro hp s
/-- an assertion that tells of a ghost what is known of it, and what the heap holds -/
def rep {X : Sort _} (φ : X → Prop) (L : X → List SP) : SP := ex fun x => grp (pu (φ x) :: L x)
theorem rep_open {X : Sort _} {φ : X → Prop} {L : X → List SP} {H : List SP} : ∀ h, Sat (rep φ L :: H) h → ∃ x, φ x ∧ Sat (L x ++ H) h := fun h s => by
  obtain ⟨x, s⟩ := ent_open (A := fun x => pu (φ x) :: L x) h s
  obtain ⟨h1, h2⟩ := Sat.pu_elim s
  exact ⟨x, h1, h2⟩
theorem rep_shut {X : Sort _} {φ : X → Prop} {L : X → List SP} {H : List SP} (x : X) (hx : φ x) : Ent (L x ++ H) (rep φ L :: H) :=
  fun h s => ent_shut (A := fun x => pu (φ x) :: L x) x h (Sat.pu_intro hx s)

section
variable {P : Program} {r : Option Nat} {K : Ko} {e : Env} {H H0 : List SP}
/-- what is told of a ghost is opened: the block comes to the list's head -/
theorem e_o {X : Sort _} {c : Code} {φ : X → Prop} {L M : X → List SP} (hs : Sel H0 (rep φ L) H) (h : ∀ x, φ x → Ex P r c K e (M x)) (ha : ∀ x, app (L x) H = some (M x) := by intro _; rfl) : Ex P r c K e H0 := fun a w hA hS => by
  obtain ⟨x, hx, s⟩ := rep_open _ (hs.ent _ hS)
  rw [app_eq _ _ _ (ha x)] at s
  exact h x hx a w hA s
theorem r_o {X : Sort _} {ops : Array Oper} {p : Plan} {φ : X → Prop} {L M : X → List SP} (hs : Sel H0 (rep φ L) H) (h : ∀ x, φ x → Run P r ops K p e (M x)) (ha : ∀ x, app (L x) H = some (M x) := by intro _; rfl) : Run P r ops K p e H0 := fun a w hA hS => by
  obtain ⟨x, hx, s⟩ := rep_open _ (hs.ent _ hS)
  rw [app_eq _ _ _ (ha x)] at s
  exact h x hx a w hA s
/-- shut: in an entailment's goal -/
theorem n_s {X : Sort _} {φ : X → Prop} {L : X → List SP} {A B M : List SP} (x : X) (hx : φ x) (h : Ent A M) (ha : app (L x) B = some M := by rfl) : Ent A (rep φ L :: B) :=
  fun h0 s => rep_shut x hx h0 (by rw [app_eq _ _ _ ha]; exact h _ s)

/-! ### Tests that are decided -/
theorem not_dt {p : Prop} [Decidable p] (h : ¬ p) : (!decide p) = true := by simp [h]
theorem not_df {p : Prop} [Decidable p] (h : p) : (!decide p) = false := by simp [h]
variable {ops : Array Oper}
theorem r_tt {p : Plan} {n : Nat} {m : List (Nat × Value)} {ds : List Deferred} {t : Nat} {c : Bool} (q : Run P r ops K p ⟨n, (t, .bool true) :: m, ds⟩ H)
    (hg : hangs ops p = some t := by rfl) (ht : lk m t = some (.bool c) := by rfl) (hc : c = true := by first | (with_reducible refine decide_eq_true ?_; omega) | (with_reducible refine not_dt ?_; omega) | with_reducible assumption) : Run P r ops K p ⟨n, m, ds⟩ H :=
  r_ifb (fun _ => q) (fun h => by rw [hc] at h; cases h) hg ht
theorem r_ff {p : Plan} {n : Nat} {m : List (Nat × Value)} {ds : List Deferred} {t : Nat} {c : Bool} (q : Run P r ops K p ⟨n, (t, .bool false) :: m, ds⟩ H)
    (hg : hangs ops p = some t := by rfl) (ht : lk m t = some (.bool c) := by rfl) (hc : c = false := by first | (with_reducible refine decide_eq_false ?_; omega) | (with_reducible refine not_df ?_; omega) | with_reducible assumption) : Run P r ops K p ⟨n, m, ds⟩ H :=
  r_ifb (fun h => by rw [hc] at h; cases h) (fun _ => q) hg ht
theorem e_tt {c : Operand} {x y : Code} {t : Bool} (q : Ex P r x K e H) (hc : e.ev c = some (.bool t) := by rfl) (ht : t = true := by first | (with_reducible refine decide_eq_true ?_; omega) | (with_reducible refine not_dt ?_; omega) | with_reducible assumption) : Ex P r (.cond c x y) K e H :=
  e_ifb (fun _ => q) (fun h => by rw [ht] at h; cases h) hc
theorem e_ff {c : Operand} {x y : Code} {t : Bool} (q : Ex P r y K e H) (hc : e.ev c = some (.bool t) := by rfl) (ht : t = false := by first | (with_reducible refine decide_eq_false ?_; omega) | (with_reducible refine not_df ?_; omega) | with_reducible assumption) : Ex P r (.cond c x y) K e H :=
  e_ifb (fun h => by rw [ht] at h; cases h) (fun _ => q) hc
end
end Go.Sl
