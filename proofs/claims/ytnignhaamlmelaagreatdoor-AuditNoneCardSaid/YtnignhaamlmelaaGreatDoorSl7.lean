/- More steps of a walk: calls while readers may still be behind, calls beside new blocks in either order, slices written out. -/
import Derived.Test.YtnignhaamlmelaaGreatDoorSl6
namespace Go.Sl
open Go

section
variable {P : Program} {r : Option Nat} {ops : Array Oper} {K : Ko} {p p' : Plan} {n : Nat} {m m' : List (Nat × Value)} {ds : List Deferred} {H R : List SP}

/-! ### Promises -/
theorem Stb.cons [T : Ty P] {di : Option Nat} {j : Nat} {js : List Nat} {o : Oper} {d : Nat} {x : Operand} {t et : TypeId} {b off : Nat} {cs : List Value} {v : Value} {i : TyI} (k : Stb P r ops di ⟨n, m, ds⟩ H js)
    (ho : lget ops.toList j = some o := by rfl) (hd : o.dst = some d := by rfl) (hop : o.op = .load t x := by rfl) (hne : (match di with | some c => !Nat.beq c d | none => true) = true := by rfl) (hl : lk m d = some v := by rfl)
    (hw : wants ops ⟨n, m, ds⟩ o = some true := by rfl) (hx : Env.ev ⟨n, m, ds⟩ x = some (.pointer (some ⟨b, off, none⟩)) := by rfl) (hb : Tk H b cs et R := by infer_instance)
    (hi : tget T.tab t = some i := by rfl)
    (hv : isScal i.k = true ∧ cs[off]? = some v ∨ isScal i.k = false ∧ ∃ vs, v = .agg vs.toArray ∧ ∃ pre post, cs = pre ++ vs ++ post ∧ pre.length = off ∧ vs.length = i.size := by first | exact Or.inl ⟨rfl, rfl⟩ | exact Or.inr ⟨rfl, _, rfl, subC_spec _ _ _ _ rfl⟩ | exact Or.inl ⟨rfl, by assumption⟩) :
    Stb P r ops di ⟨n, m, ds⟩ H (j :: js) := fun q hq => by
  rcases List.mem_cons.1 hq with rfl | hq
  · rw [lget_eq] at ho
    refine ⟨o, d, v, by simpa using ho, hd, fun e => ?_, hl, hw, ?_⟩
    · subst e; simp at hne
    · rcases hv with ⟨hs, hv⟩ | ⟨hs, vs, rfl, hv⟩
      · exact qt_load1 (scal_of (ty_get hi) hs) hop hx hb hv
      · exact qt_loadS (agg_of (ty_get hi) hs) hop hx hb hv
  · exact k q hq

/-- the next operation, which acts while the readers js may be behind -/
def stepR (ops : Array Oper) (p : Plan) (n : Nat) (m : List (Nat × Value)) : Option (Option Nat × Op × List Nat × Plan) :=
  match p with
  | .tr (.prm i js t) => match lget ops.toList i with
    | none => none
    | some o => match okDst n o.dst with
      | false => none
      | true => match wants ops ⟨n, m, []⟩ o with
        | some true => some (o.dst, o.op, js, .tr t)
        | _ => none
  | _ => none
theorem stepR_spec {d : Option Nat} {op : Op} {js : List Nat} (h : stepR ops p n m = some (d, op, js, p')) :
    ∃ i t o, p = .tr (.prm i js t) ∧ p' = .tr t ∧ ops[i]? = some o ∧ o.dst = d ∧ o.op = op ∧ okDst n o.dst = true ∧ ∀ ds, wants ops ⟨n, m, ds⟩ o = some true := by
  unfold stepR at h
  split at h
  · rename_i i js' t
    split at h
    · cases h
    · rename_i o ho
      split at h
      · cases h
      · rename_i hd
        split at h
        · rename_i hw
          cases h
          rw [lget_eq] at ho
          exact ⟨i, t, o, rfl, rfl, by simpa using ho, rfl, rfl, hd, fun ds => by rw [← wants_ds]; exact hw⟩
        · cases h
  · cases h

theorem putM_agree {d : Option Nat} {a : Act} (ha : Agree ⟨n, m, ds⟩ a) (hd : okDst n d = true) (v : Value) : Agree ⟨n, putM d v m, ds⟩ (a.put d v) := by
  have := ha.put hd v
  cases d <;> exact this

/-- whoever acts while readers may be behind: they read from the frame R -/
theorem wpr_of {i : Nat} {js : List Nat} {o : Oper} {N : Value → List SP → Prop} {X : Act → World → Prop} (ho : ops[i]? = some o) (hd : okDst n o.dst = true) (hw : ∀ ds, wants ops ⟨n, m, ds⟩ o = some true)
    (hE : Ef P r o ⟨n, m, ds⟩ H N) (hS : ∀ v H', N v H' → Ent H' R) (hst : ∀ v, Stb P r ops o.dst ⟨n, putM o.dst v m, ds⟩ R js)
    (q : ∀ v H' a w, N v H' → Agree ⟨n, putM o.dst v m, ds⟩ a → Sat H' (heapOf w) → X a w) (a : Act) (w : World) (ha : Agree ⟨n, m, ds⟩ a) (hs : Sat H (heapOf w)) : wpr P r ops i js X a w := by
  refine ⟨o, ho, fun x hx => by rw [ha.size]; exact okDst_lt hd x hx, wants_spec ha (hw ds), ?_⟩
  exact (hE a w ha hs).mono fun v w' ⟨H', hN, s⟩ =>
    have hA := putM_agree ha hd v
    ⟨(hst v).yl hA (hS v H' hN _ s), q v H' _ _ hN hA s⟩

theorem r_prm {d : Option Nat} {op : Op} {js : List Nat} {N : Value → List SP → Prop} (h : stepR ops p n m = some (d, op, js, p')) (hE : ∀ o : Oper, o.op = op → Ef P r o ⟨n, m, ds⟩ H N)
    (hS : ∀ v H', N v H' → Ent H' R) (hst : ∀ v, Stb P r ops d ⟨n, putM d v m, ds⟩ R js)
    (q : ∀ v H', N v H' → Run P r ops K p' ⟨n, putM d v m, ds⟩ H') : Run P r ops K p ⟨n, m, ds⟩ H := by
  obtain ⟨i, t, o, rfl, rfl, h1, rfl, h3, h4, h5⟩ := stepR_spec h
  exact fun a w ha hs => wpr_of h1 h4 h5 (hE o h3) hS hst (fun v H' a w hN ha hs => q v H' hN a w ha hs) a w ha hs

theorem ent_app (L R : List SP) : Ent (L ++ R) R := fun _ s => Sat.append_right s

/-- a call, while readers of the frame may be behind -/
theorem r_callp {f : FuncId} {d : Option Nat} {op : Op} {js : List Nat} {vs : List Value} {Pre : List SP} {Q : Value → List SP → Prop} [hf : TFun P f] (C : Ct P f vs Pre Q)
    (q : ∀ v L, Q v L → Run P r ops K p' ⟨n, putM d v m, ds⟩ (L ++ R))
    (h : stepR ops p n m = some (d, op, js, p') := by rfl) (hx : callC ⟨n, m, []⟩ op = some (f, vs) := by rfl)
    (hF : Frm H Pre R := by repeat (first | exact Frm.nil _ | apply Frm.cons | exact Sel.here _ _ | apply Sel.there))
    (hst : ∀ v, Stb P r ops d ⟨n, putM d v m, ds⟩ R js := by (intro _; repeat (first | exact Stb.nil | refine Stb.cons ?_))) : Run P r ops K p ⟨n, m, ds⟩ H := by
  rw [callC_ds (ds := ds)] at hx
  exact r_prm (N := fun v H' => ∃ L, H' = L ++ R ∧ Q v L) h (fun o ho => by
    subst ho
    obtain ⟨h1, h2⟩ := callC_spec hf hx
    exact ef_call h1 C hF.ent h2) (fun v H' ⟨L, e, _⟩ => by subst e; exact ent_app L R) hst fun v H' ⟨L, e, hq⟩ => by subst e; exact q v L hq
theorem r_cp {f : FuncId} {d : Option Nat} {op : Op} {js : List Nat} {vs : List Value} {Pre L M : List SP} {V : Value} [hf : TFun P f] (C : Ct P f vs Pre (det V L))
    (q : Run P r ops K p' ⟨n, m', ds⟩ M)
    (h : stepR ops p n m = some (d, op, js, p') := by rfl) (hx : callC ⟨n, m, []⟩ op = some (f, vs) := by rfl)
    (hF : Frm H Pre R := by repeat (first | exact Frm.nil _ | apply Frm.cons | exact Sel.here _ _ | apply Sel.there))
    (hst : ∀ v, Stb P r ops d ⟨n, putM d v m, ds⟩ R js := by (intro _; repeat (first | exact Stb.nil | refine Stb.cons ?_)))
    (ha : app L R = some M := by rfl) (hm : putO d V m = some m' := by rfl) : Run P r ops K p ⟨n, m, ds⟩ H :=
  r_callp C (fun v l ⟨e1, e2⟩ => by subst e1; subst e2; rw [app_eq _ _ _ ha, putO_eq hm]; exact q) h hx hF hst
theorem r_xp {X : Sort _} {f : FuncId} {d : Option Nat} {op : Op} {js : List Nat} {vs : List Value} {Pre : List SP} {V : X → Value} {L M : X → List SP} {φ : X → Prop} {m' : X → List (Nat × Value)} [hf : TFun P f] (C : Ct P f vs Pre (exi V L φ))
    (q : ∀ x, φ x → Run P r ops K p' ⟨n, m' x, ds⟩ (M x))
    (h : stepR ops p n m = some (d, op, js, p') := by rfl) (hx : callC ⟨n, m, []⟩ op = some (f, vs) := by rfl)
    (hF : Frm H Pre R := by repeat (first | exact Frm.nil _ | apply Frm.cons | exact Sel.here _ _ | apply Sel.there))
    (hst : ∀ v, Stb P r ops d ⟨n, putM d v m, ds⟩ R js := by (intro _; repeat (first | exact Stb.nil | refine Stb.cons ?_)))
    (ha : ∀ x, app (L x) R = some (M x) := by intro _; rfl) (hm : ∀ x, putO d (V x) m = some (m' x) := by intro _; rfl) : Run P r ops K p ⟨n, m, ds⟩ H :=
  r_callp C (fun v l ⟨x, hp, e1, e2⟩ => by subst e1; subst e2; rw [app_eq _ _ _ (ha x), putO_eq (hm x)]; exact q x hp) h hx hF hst

/-! ### New blocks, by computing -/
def appV : List Value → List Value → Option (List Value)
  | [], R => some R
  | v :: L, R => match appV L R with
    | some M => some (v :: M)
    | none => none
theorem appV_eq : ∀ (L R M : List Value), appV L R = some M → L ++ R = M
  | [], R, M, h => by simpa [appV] using h
  | A :: L, R, M, h => by
    simp only [appV] at h
    split at h
    · rename_i M' hM
      cases h
      simp [appV_eq L R M' hM]
    · cases h
/-- the parts 0, 1, 2 and so on, s cells each -/
def firsts (s : Nat) : Nat → List (Nat × Value) → Option (List Value)
  | _, [] => some []
  | _, (_, .tuple _) :: _ => none
  | i, (j, v) :: l => match Nat.beq i j, Nat.beq (cellsC v).length s with
    | true, true => match firsts s (i + 1) l with
      | some vs => appV (cellsC v) vs
      | none => none
    | _, _ => none
theorem firsts_spec (s : Nat) : ∀ (l : List (Nat × Value)) (i : Nat) (vs : List Value), firsts s i l = some vs → vs.length = l.length * s ∧
    ∀ (done rest : List Value), done.length = i * s → l.length * s ≤ rest.length → Instr.fill (fun j => some (j * s, s)) (done ++ rest).toArray l = some (done ++ vs ++ rest.drop (l.length * s)).toArray
  | [], i, vs, h => by simp [firsts] at h; subst h; exact ⟨by simp, fun done rest _ _ => by simp [Instr.fill]⟩
  | (j, v) :: l, i, vs, h => by
    have h' : (∀ a, v ≠ .tuple a) ∧ i = j ∧ (cellsC v).length = s ∧ ∃ us, firsts s (i + 1) l = some us ∧ cellsC v ++ us = vs := by
      unfold firsts at h
      split at h
      · rename_i e; cases e
      · cases h
      · rename_i j' v' l' hnt e
        cases e
        split at h
        · rename_i h1 h2
          split at h
          · rename_i us hus
            exact ⟨fun a e => hnt a (by rw [e]), Nat.eq_of_beq_eq_true h1, Nat.eq_of_beq_eq_true h2, us, hus, appV_eq _ _ _ h⟩
          · cases h
        · cases h
    obtain ⟨hnt, rfl, hlen, us, hus, rfl⟩ := h'
    obtain ⟨ih1, ih2⟩ := firsts_spec s l (i + 1) us hus
    refine ⟨by simp [ih1, hlen, Nat.add_mul, Nat.add_comm], fun done rest hdone hrest => ?_⟩
    have hsplit : (l.length + 1) * s = s + l.length * s := by rw [Nat.add_mul, Nat.one_mul, Nat.add_comm]
    simp only [List.length_cons, hsplit] at hrest ⊢
    obtain ⟨old, rest', e, hold⟩ : ∃ old rest', rest = old ++ rest' ∧ old.length = s := ⟨rest.take s, rest.drop s, by simp, by simp; omega⟩
    subst e
    have hf := fold_put (cellsC v) done old rest' (i * s) 0 (by rw [hold, hlen]) (by omega)
    unfold Instr.fill
    simp only
    rw [cellsC_spec v hnt]
    rw [if_neg (by simp [hlen, hdone, hold])]
    rw [← Array.foldl_toList]
    simp only [Array.toList_zipIdx]
    rw [show (done ++ (old ++ rest')) = done ++ old ++ rest' by simp, hf]
    have := ih2 (done ++ cellsC v) rest' (by simp [hdone, hlen, Nat.add_mul]) (by simp at hrest; omega)
    rw [this]
    congr 2
    simp [List.drop_append, hold]
/-- the same list, told whole -/
def copyL : List Value → Option (List Value)
  | [] => some []
  | x :: l => match copyL l with
    | some r => some (x :: r)
    | none => none
theorem copyL_eq : ∀ (l r : List Value), copyL l = some r → l = r
  | [], r, h => by simpa [copyL] using h
  | x :: l, r, h => by
    simp only [copyL] at h
    split at h
    · rename_i r' hr; cases h; rw [copyL_eq l r' hr]
    · cases h
/-- what a new block holds, of which type; its pointer, or a slice of so many -/
def newC (τ : TypeId → Option TyI) (e : Env) : Op → Option (Option Nat × List Value × TypeId)
  | .alloc t => match τ t with
    | some i => some (none, i.zc, t)
    | none => none
  | .box t x => match e.ev x with
    | some (.agg vs) => match copyL vs.toList with
      | some us => some (none, us, t)
      | none => none
    | some (.tuple _) => none
    | some v => some (none, [v], t)
    | none => none
  | .buildSlice t N parts => match τ t, evps e parts.toList with
    | some ⟨.slice el s _ _, _, _, _, _⟩, some us => match Nat.ble (N * s) 1024, Nat.beq (N * s) 0, Nat.beq us.length N with
      | true, false, true => match firsts s 0 us with
        | some vs => some (some N, vs, el)
        | none => none
      | _, _, _ => none
    | _, _ => none
  | _ => none
def newV : Option Nat → Nat → Value
  | none, b => .pointer (some ⟨b, 0, none⟩)
  | some N, b => .slice (some ⟨b, 0, none⟩) N N

def newO : Option Nat → Nat → Option Value
  | none, b => some (.pointer (some ⟨b, 0, none⟩))
  | some N, b => some (.slice (some ⟨b, 0, none⟩) N N)
theorem newO_eq {kd : Option Nat} {b : Nat} {v : Value} (h : newO kd b = some v) : newV kd b = v := by
  cases kd <;> simpa [newO, newV] using h
theorem newC_spec [T : Ty P] {e : Env} {o : Oper} {kd : Option Nat} {vs : List Value} {t : TypeId} (h : newC (tget T.tab) e o.op = some (kd, vs, t)) : (∀ c, o.op ≠ .defer c) ∧
    ∀ a w, Agree e a → (execOp a.eval o).run P w = .ok (.value (newV kd w.heap.size)) (w.alloc (.cells vs.toArray t (0, 0))) := by
  obtain ⟨d, op, ty, pos, aft, g⟩ := o
  simp only at h ⊢
  unfold newC at h
  split at h
  · split at h
    · rename_i i hi
      cases h
      have hI := ty_get hi
      refine ⟨by simp, fun a w ha => ?_⟩
      rw [← hI.2.1]
      simp [execOp, Instr.alloc, run_zeroValue hI.1, newVar, newRow, newV]
    · cases h
  · split at h
    · rename_i us hx
      split at h
      · rename_i us' hus
        cases h
        have e1 : us.toList = vs := copyL_eq _ _ hus
        subst e1
        exact ⟨by simp, fun a w ha => by simp [execOp, ha.ev hx, Instr.box, newVar, newRow, newV, Value.cells]⟩
      · cases h
    · cases h
    · rename_i v hn1 hn2 hx
      cases h
      refine ⟨by simp, fun a w ha => ?_⟩
      have : v.cells = #[v] := by cases v <;> simp_all [Value.cells]
      simp [execOp, ha.ev hx, Instr.box, newVar, newRow, newV, this]
    · cases h
  · split at h
    · rename_i t' N parts _ _ el s bz z i1 i2 i3 i4 us ht hx
      split at h
      · rename_i h1 h2 h3
        split at h
        · rename_i vs' hvs
          cases h
          have hT := (ty_get ht).2.2.1
          obtain ⟨ii, v, g1, g3, g4, g2, _⟩ := hT.info
          refine ⟨by simp, fun c w ha => ?_⟩
          have hs : (sizeOf t).run P w = .ok s w := run_sizeOf ⟨ii, g1, g2⟩ w
          have hzv : (zeroValue t).run P w = .ok v w := by simp [zeroValue, run_typeInfo g1, g3]
          have e1 : (parts.map fun (x : Nat × Operand) => (x.1, c.eval x.2)).toList = us := by
            rw [Array.toList_map]; exact ha.evps hx
          have hN : N * s ≤ 1024 := by simpa using h1
          have hz : N * s ≠ 0 := fun e => by rw [e] at h2; simp at h2
          have hul : us.length = N := Nat.eq_of_beq_eq_true h3
          obtain ⟨f1, f2⟩ := firsts_spec s us 0 _ hvs
          have hf : Instr.fill (fun i => some (i * s, s)) ((Array.range (N * s)).map (v.cells[· % v.cells.size]!)) us = some vs.toArray := by
            have := f2 [] ((Array.range (N * s)).map (v.cells[· % v.cells.size]!)).toList (by simp) (by simp [hul])
            simp only [List.nil_append] at this
            rw [Array.toArray_toList] at this
            rw [this]
            congr 2
            rw [List.drop_eq_nil_of_le (by simp [hul])]
            simp
          simp only [execOp, Instr.buildSlice, Sem.run_bind, run_underlying hT.out, Result.andThen_ok, hs]
          rw [if_neg (by omega), if_neg hz]
          simp only [Sem.run_bind, hzv, Result.andThen_ok, Sem.run_pure, e1, hf, newRow, run_newObj, newV]
          rfl
        · cases h
      · cases h
    · cases h
  · cases h

theorem newC_ds {τ : TypeId → Option TyI} (op : Op) : newC τ ⟨n, m, []⟩ op = newC τ ⟨n, m, ds⟩ op := by
  unfold newC
  simp only [ev_ds (ds := ds), evps_ds (ds := ds)]

theorem ef_new {o : Oper} {kd : Option Nat} {vs : List Value} {t : TypeId} {e : Env} (h : (∀ c, o.op ≠ .defer c) ∧
    ∀ a w, Agree e a → (execOp a.eval o).run P w = .ok (.value (newV kd w.heap.size)) (w.alloc (.cells vs.toArray t (0, 0)))) : Ef P r o e H fun v H' => ∃ b, v = newV kd b ∧ H' = cl b vs t :: H :=
  ef_of h.1 fun a w ha hs => ⟨_, _, _, .inl (h.2 a w ha), ⟨w.heap.size, rfl, rfl⟩, sat_alloc hs⟩

/-- a new block -/
theorem r_n [T : Ty P] {d k : Nat} {op : Op} {vs : List Value} {t : TypeId} {kd : Option Nat} {v : Nat → Value} (q : ∀ b, Run P r ops K p' ⟨n, (d, v b) :: m, ds⟩ (cl b vs t :: H))
    (h : stepM ops p n m = some (some d, op, k, p') := by rfl) (hx : newC (tget T.tab) ⟨n, m, []⟩ op = some (kd, vs, t) := by rfl) (hv : ∀ b, newO kd b = some (v b) := by intro _; rfl) (hk : Nat.ble 2 k = true := by rfl) : Run P r ops K p ⟨n, m, ds⟩ H := by
  rw [newC_ds (ds := ds)] at hx
  exact act_of (N := fun v H' => ∃ b, v = newV kd b ∧ H' = cl b vs t :: H) h hk (fun o ho => by subst ho; exact ef_new (newC_spec hx)) fun v' H' ⟨b, e1, e2⟩ => by
    subst e1; subst e2; rw [newO_eq (hv b)]; exact q b
/-- a new block, while readers may be behind -/
theorem r_np [T : Ty P] {d : Nat} {js : List Nat} {op : Op} {vs : List Value} {t : TypeId} {kd : Option Nat} {v : Nat → Value} (q : ∀ b, Run P r ops K p' ⟨n, (d, v b) :: m, ds⟩ (cl b vs t :: H))
    (h : stepR ops p n m = some (some d, op, js, p') := by rfl) (hx : newC (tget T.tab) ⟨n, m, []⟩ op = some (kd, vs, t) := by rfl) (hv : ∀ b, newO kd b = some (v b) := by intro _; rfl)
    (hst : ∀ v, Stb P r ops (some d) ⟨n, (d, v) :: m, ds⟩ H js := by (intro _; repeat (first | exact Stb.nil | refine Stb.cons ?_))) : Run P r ops K p ⟨n, m, ds⟩ H := by
  rw [newC_ds (ds := ds)] at hx
  exact r_prm (N := fun v H' => ∃ b, v = newV kd b ∧ H' = cl b vs t :: H) h (fun o ho => by subst ho; exact ef_new (newC_spec hx)) (fun v H' ⟨b, _, e⟩ => by subst e; exact fun _ s => Sat.tail s) hst fun v' H' ⟨b, e1, e2⟩ => by
    subst e1; subst e2; simp only [putM]; rw [newO_eq (hv b)]; exact q b

/-! ### A call beside a new block, in either order -/
/-- i calls, j makes the block; both orders' plans; what is left behind both -/
def stepA (ops : Array Oper) (p : Plan) (n : Nat) (m : List (Nat × Value)) : Option ((Option Nat × Op × List Nat) × (Nat × Op × List Nat) × Tr) :=
  match p with
  | .tr (.alt i js1 t1 j js2 t2) => match lget ops.toList i, lget ops.toList j with
    | some a, some b => match b.op with
      | .call _ => match a.dst with
        | none => none
        | some d => match t1 with
          | .one j' 2 t => fin j b js2 i d a js1 j' t t2
          | _ => none
      | _ => match b.dst with
        | none => none
        | some d => match t2 with
          | .one i' 2 t => fin i a js1 j d b js2 i' t t1
          | _ => none
    | _, _ => none
  | _ => none
  where
  fin (i : Nat) (a : Oper) (js1 : List Nat) (j d : Nat) (b : Oper) (js2 : List Nat) (i' : Nat) (t t1 : Tr) : Option ((Option Nat × Op × List Nat) × (Nat × Op × List Nat) × Tr) :=
    match Nat.beq i i', Nat.blt d n, okDst n a.dst, noSel ops, (match a.dst with | some c => !Nat.beq c d && !(a.looksAt ops).contains d && !(b.looksAt ops).contains c | none => !(a.looksAt ops).contains d) with
    | true, true, true, true, true => match swapOk ops j t1 t, wants ops ⟨n, m, []⟩ a, wants ops ⟨n, m, []⟩ b with
      | true, some true, some true => some ((a.dst, a.op, js1), (d, b.op, js2), t)
      | _, _, _ => none
    | _, _, _, _, _ => none
theorem stepA_spec {d1 : Option Nat} {d2 : Nat} {op1 op2 : Op} {js1 js2 : List Nat} {t : Tr} (h : stepA ops p n m = some ((d1, op1, js1), (d2, op2, js2), t)) :
    ∃ i j a b t1, ops[i]? = some a ∧ ops[j]? = some b ∧ a.dst = d1 ∧ b.dst = some d2 ∧ a.op = op1 ∧ b.op = op2 ∧ Nat.blt d2 n = true ∧ okDst n a.dst = true ∧ noSel ops = true ∧ (a.dst ≠ some d2) ∧ d2 ∉ a.looksAt ops ∧ (∀ c, a.dst = some c → c ∉ b.looksAt ops) ∧
      swapOk ops j t1 t = true ∧ wants ops ⟨n, m, []⟩ a = some true ∧ wants ops ⟨n, m, []⟩ b = some true ∧
      (p = .tr (.alt i js1 t1 j js2 (.one i 2 t)) ∨ p = .tr (.alt j js2 (.one i 2 t) i js1 t1)) := by
  have fin : ∀ {i : Nat} {a : Oper} {j d : Nat} {b : Oper} {js1' js2' : List Nat} {i' : Nat} {t' t1 : Tr}, ops[i]? = some a → ops[j]? = some b → b.dst = some d →
      stepA.fin ops n m i a js1' j d b js2' i' t' t1 = some ((d1, op1, js1), (d2, op2, js2), t) → i = i' ∧ js1' = js1 ∧ js2' = js2 ∧ t' = t ∧
      (a.dst = d1 ∧ b.dst = some d2 ∧ a.op = op1 ∧ b.op = op2 ∧ Nat.blt d2 n = true ∧ okDst n a.dst = true ∧ noSel ops = true ∧ (a.dst ≠ some d2) ∧ d2 ∉ a.looksAt ops ∧ (∀ c, a.dst = some c → c ∉ b.looksAt ops) ∧
      swapOk ops j t1 t = true ∧ wants ops ⟨n, m, []⟩ a = some true ∧ wants ops ⟨n, m, []⟩ b = some true) := by
    intro i a j d b js1' js2' i' t' t1 ha hb hd h
    unfold stepA.fin at h
    split at h
    · rename_i h1 h2 h3 h4 h5
      split at h
      · rename_i h6 h7 h8
        cases h
        have e1 := Nat.eq_of_beq_eq_true h1
        refine ⟨e1, rfl, rfl, rfl, rfl, hd, rfl, rfl, h2, h3, h4, ?_, ?_, ?_, h6, h7, h8⟩
        · intro e; rw [e] at h5; simp at h5
        · cases hc : a.dst <;> rw [hc] at h5 <;> simp at h5
          · exact h5
          · exact h5.1.2
        · intro c hc; rw [hc] at h5; simp at h5; exact h5.2
      · cases h
    · cases h
  unfold stepA at h
  split at h
  · rename_i i js1' t1 j js2' t2
    split at h
    · rename_i a b ha hb
      rw [lget_eq] at ha hb
      have ha : ops[i]? = some a := by simpa using ha
      have hb : ops[j]? = some b := by simpa using hb
      split at h
      · split at h
        · cases h
        · rename_i d hd
          split at h
          · rename_i j' t'
            obtain ⟨rfl, rfl, rfl, rfl, h⟩ := fin hb ha hd h
            exact ⟨j, i, b, a, _, hb, ha, h.1, h.2.1, h.2.2.1, h.2.2.2.1, h.2.2.2.2.1, h.2.2.2.2.2.1, h.2.2.2.2.2.2.1, h.2.2.2.2.2.2.2.1, h.2.2.2.2.2.2.2.2.1, h.2.2.2.2.2.2.2.2.2.1, h.2.2.2.2.2.2.2.2.2.2.1, h.2.2.2.2.2.2.2.2.2.2.2.1, h.2.2.2.2.2.2.2.2.2.2.2.2, .inr rfl⟩
          · cases h
      · split at h
        · cases h
        · rename_i d hd
          split at h
          · rename_i i' t'
            obtain ⟨rfl, rfl, rfl, rfl, h⟩ := fin ha hb hd h
            exact ⟨i, j, a, b, _, ha, hb, h.1, h.2.1, h.2.2.1, h.2.2.2.1, h.2.2.2.2.1, h.2.2.2.2.2.1, h.2.2.2.2.2.2.1, h.2.2.2.2.2.2.2.1, h.2.2.2.2.2.2.2.2.1, h.2.2.2.2.2.2.2.2.2.1, h.2.2.2.2.2.2.2.2.2.2.1, h.2.2.2.2.2.2.2.2.2.2.2.1, h.2.2.2.2.2.2.2.2.2.2.2.2, .inl rfl⟩
          · cases h
    · cases h
  · cases h

theorem perm_mid (A : SP) (L R : List SP) : Ent (A :: (L ++ R)) (L ++ A :: R) := fun _ s => Sat.perm List.perm_middle.symm s
theorem perm_mid' (A : SP) (L R : List SP) : Ent (L ++ A :: R) (A :: (L ++ R)) := fun _ s => Sat.perm List.perm_middle s

theorem r_alt [T : Ty P] {f : FuncId} {vs us : List Value} {ty : TypeId} {kd : Option Nat} {Pre : List SP} {Q : Value → List SP → Prop} {d1 : Option Nat} {d2 : Nat} {op1 op2 : Op} {js1 js2 : List Nat} {t : Tr} [hf : TFun P f] (C : Ct P f vs Pre Q)
    (q : ∀ b v L, Q v L → Run P r ops K (.tr t) ⟨n, putM d1 v ((d2, newV kd b) :: m), ds⟩ (L ++ cl b us ty :: R))
    (h : stepA ops p n m = some ((d1, op1, js1), (d2, op2, js2), t) := by rfl) (hx : callC ⟨n, m, []⟩ op1 = some (f, vs) := by rfl) (hN : newC (tget T.tab) ⟨n, m, []⟩ op2 = some (kd, us, ty) := by rfl)
    (hF : Frm H Pre R := by repeat (first | exact Frm.nil _ | apply Frm.cons | exact Sel.here _ _ | apply Sel.there))
    (st1 : ∀ v, Stb P r ops d1 ⟨n, putM d1 v m, ds⟩ R js1 := by (intro _; repeat (first | exact Stb.nil | refine Stb.cons ?_)))
    (st2 : ∀ v, Stb P r ops (some d2) ⟨n, (d2, v) :: m, ds⟩ H js2 := by (intro _; repeat (first | exact Stb.nil | refine Stb.cons ?_))) : Run P r ops K p ⟨n, m, ds⟩ H := by
  rw [callC_ds (ds := ds)] at hx
  rw [newC_ds (ds := ds)] at hN
  obtain ⟨i, j, x, y, t1, hi, hj, e1, e2, e3, e4, hlt, hok, hsel, hne, hl1, hl2, hsw, hwx, hwy, hp⟩ := stepA_spec h
  subst e1 e3 e4
  have hcall := callC_spec hf hx
  have hnew := newC_spec hN
  have hwx' : wants ops ⟨n, m, ds⟩ x = some true := by rw [← wants_ds]; exact hwx
  have hwy' : wants ops ⟨n, m, ds⟩ y = some true := by rw [← wants_ds]; exact hwy
  have hEn : ∀ {o : Oper} {a : Act}, (∀ c, o.op ≠ .defer c) → o.semAt r a.eval = execOp a.eval o := fun hd => Oper.semAt_eq _ _ _ hd
  have oky : ∀ a : Act, Agree ⟨n, m, ds⟩ a → okDsts y a := fun a ha d hd => by rw [e2] at hd; cases hd; rw [ha.size]; simpa [Nat.blt_eq] using hlt
  have okx : ∀ a : Act, Agree ⟨n, m, ds⟩ a → okDsts x a := fun a ha => fun d hd => by rw [ha.size]; exact okDst_lt hok d hd
  -- the block first
  have newFirst : ∀ a w, Agree ⟨n, m, ds⟩ a → Sat H (heapOf w) → wpr P r ops j js2 (wpT P r ops (K.den P r) (.one i 2 t)) a w := by
    intro a w ha hs
    refine ⟨y, hj, oky a ha, wants_spec ha hwy', ?_⟩
    unfold op1
    rw [hEn hnew.1, hnew.2 a w ha]
    have hA : Agree ⟨n, (d2, newV kd w.heap.size) :: m, ds⟩ (a.put y.dst (newV kd w.heap.size)) := by rw [e2]; exact ha.set hlt _
    have hs2 : Sat (cl w.heap.size us ty :: H) (heapOf (w.alloc (.cells us.toArray ty (0, 0)))) := sat_alloc hs
    refine ⟨?_, x, hi, fun d hd => by rw [put_size]; exact okx a ha d hd, .inr (.inr ⟨Nat.le_refl _, ?_⟩)⟩
    · have := (st2 (newV kd w.heap.size)).yl (a := a) (x := newV kd w.heap.size) (w := w.alloc (.cells us.toArray ty (0, 0))) (by rw [← e2]; exact hA) (Sat.tail hs2)
      rw [e2]; exact this
    · obtain ⟨s1, s2⟩ := noSel_spec ops hsel hi
      obtain ⟨k1, k2⟩ := same_of ops s1 s2 (a := a) (a' := a.put y.dst (newV kd w.heap.size)) (fun t ht => put_ne fun e => by rw [e2] at e; cases e; exact hl1 ht) r
      rw [if_pos (by rw [k2]; exact wants_spec ha hwx')]
      unfold op1
      rw [k1, hEn hcall.1, hcall.2 a _ ha]
      have hs3 : Sat (Pre ++ cl w.heap.size us ty :: R) (heapOf (w.alloc (.cells us.toArray ty (0, 0)))) := perm_mid _ _ _ _ (Ent.cons hF.ent _ hs2)
      refine (C _ _ hs3).mono fun e w' ⟨v, L, h1, h2, h3⟩ => ⟨v, h1, ?_⟩
      exact q _ v L h2 _ _ (putM_agree hA hok v) h3
  have callFirst : ∀ a w, Agree ⟨n, m, ds⟩ a → Sat H (heapOf w) → wpr P r ops i js1 (wpT P r ops (K.den P r) t1) a w := by
    intro a w ha hs
    refine ⟨x, hi, okx a ha, wants_spec ha hwx', ?_⟩
    unfold op1
    rw [hEn hcall.1, hcall.2 a w ha]
    refine (C R w (hF.ent _ hs)).mono fun e w' ⟨v, L, h1, h2, h3⟩ => ⟨v, h1, ?_, ?_⟩
    · exact (st1 v).yl (putM_agree ha hok v) (Sat.append_right h3)
    · obtain ⟨s1, s2⟩ := noSel_spec ops hsel hj
      obtain ⟨k1, k2⟩ := same_of ops s1 s2 (a := a) (a' := a.put x.dst v) (fun t ht => put_ne fun e => hl2 t e ht) r
      refine wpT_swap hsel hj t1 t hsw _ w' (newV kd w'.heap.size) (w'.alloc (.cells us.toArray ty (0, 0))) (by rw [k1, hEn hnew.1]; exact hnew.2 a w' ha) (by rw [k2]; exact wants_spec ha hwy') (fun d hd => by rw [put_size]; exact oky a ha d hd) ?_
      have comm : (a.put x.dst v).put y.dst (newV kd w'.heap.size) = (a.put y.dst (newV kd w'.heap.size)).put x.dst v := by
        rw [e2]
        cases hd : x.dst with
        | none => rfl
        | some c =>
          simp only [Act.put]
          congr 1
          exact Array.setIfInBounds_comm _ _ (fun e => hne (by rw [hd, e]))
      rw [comm]
      have hA : Agree ⟨n, (d2, newV kd w'.heap.size) :: m, ds⟩ (a.put y.dst (newV kd w'.heap.size)) := by rw [e2]; exact ha.set hlt _
      exact q _ v L h2 _ _ (putM_agree hA hok v) (perm_mid _ _ _ _ (sat_alloc h3))
  rcases hp with rfl | rfl
  · exact fun a w ha hs => ⟨callFirst a w ha hs, newFirst a w ha hs⟩
  · exact fun a w ha hs => ⟨newFirst a w ha hs, callFirst a w ha hs⟩

theorem r_ca [T : Ty P] {nv : Nat → Value} {f : FuncId} {vs us : List Value} {ty : TypeId} {kd : Option Nat} {Pre L : List SP} {M : Nat → List SP} {V : Value} {m' : Nat → List (Nat × Value)} {d1 : Option Nat} {d2 : Nat} {op1 op2 : Op} {js1 js2 : List Nat} {t : Tr} [hf : TFun P f] (C : Ct P f vs Pre (det V L))
    (q : ∀ b, Run P r ops K (.tr t) ⟨n, m' b, ds⟩ (M b))
    (h : stepA ops p n m = some ((d1, op1, js1), (d2, op2, js2), t) := by rfl) (hx : callC ⟨n, m, []⟩ op1 = some (f, vs) := by rfl) (hN : newC (tget T.tab) ⟨n, m, []⟩ op2 = some (kd, us, ty) := by rfl)
    (hF : Frm H Pre R := by repeat (first | exact Frm.nil _ | apply Frm.cons | exact Sel.here _ _ | apply Sel.there))
    (st1 : ∀ v, Stb P r ops d1 ⟨n, putM d1 v m, ds⟩ R js1 := by (intro _; repeat (first | exact Stb.nil | refine Stb.cons ?_)))
    (st2 : ∀ v, Stb P r ops (some d2) ⟨n, (d2, v) :: m, ds⟩ H js2 := by (intro _; repeat (first | exact Stb.nil | refine Stb.cons ?_)))
    (ha : ∀ b, app L (cl b us ty :: R) = some (M b) := by intro _; rfl) (hnv : ∀ b, newO kd b = some (nv b) := by intro _; rfl) (hm : ∀ b, putO d1 V ((d2, nv b) :: m) = some (m' b) := by intro _; rfl) : Run P r ops K p ⟨n, m, ds⟩ H :=
  r_alt C (fun b v l ⟨e1, e2⟩ => by subst e1; subst e2; rw [app_eq _ _ _ (ha b), newO_eq (hnv b), putO_eq (hm b)]; exact q b) h hx hN hF st1 st2
theorem r_xa [T : Ty P] {nv : Nat → Value} {X : Sort _} {f : FuncId} {vs us : List Value} {ty : TypeId} {kd : Option Nat} {Pre : List SP} {V : X → Value} {L : X → List SP} {φ : X → Prop} {M : Nat → X → List SP} {m' : Nat → X → List (Nat × Value)} {d1 : Option Nat} {d2 : Nat} {op1 op2 : Op} {js1 js2 : List Nat} {t : Tr} [hf : TFun P f] (C : Ct P f vs Pre (exi V L φ))
    (q : ∀ b x, φ x → Run P r ops K (.tr t) ⟨n, m' b x, ds⟩ (M b x))
    (h : stepA ops p n m = some ((d1, op1, js1), (d2, op2, js2), t) := by rfl) (hx : callC ⟨n, m, []⟩ op1 = some (f, vs) := by rfl) (hN : newC (tget T.tab) ⟨n, m, []⟩ op2 = some (kd, us, ty) := by rfl)
    (hF : Frm H Pre R := by repeat (first | exact Frm.nil _ | apply Frm.cons | exact Sel.here _ _ | apply Sel.there))
    (st1 : ∀ v, Stb P r ops d1 ⟨n, putM d1 v m, ds⟩ R js1 := by (intro _; repeat (first | exact Stb.nil | refine Stb.cons ?_)))
    (st2 : ∀ v, Stb P r ops (some d2) ⟨n, (d2, v) :: m, ds⟩ H js2 := by (intro _; repeat (first | exact Stb.nil | refine Stb.cons ?_)))
    (ha : ∀ b x, app (L x) (cl b us ty :: R) = some (M b x) := by intro _ _; rfl) (hnv : ∀ b, newO kd b = some (nv b) := by intro _; rfl) (hm : ∀ b x, putO d1 (V x) ((d2, nv b) :: m) = some (m' b x) := by intro _ _; rfl) : Run P r ops K p ⟨n, m, ds⟩ H :=
  r_alt C (fun b v l ⟨x, hp, e1, e2⟩ => by subst e1; subst e2; rw [app_eq _ _ _ (ha b x), newO_eq (hnv b), putO_eq (hm b x)]; exact q b x hp) h hx hN hF st1 st2
end
end Go.Sl
