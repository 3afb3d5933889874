/- Maps: as lists of keys and values, the keys of a type of their own. -/
import Derived.Test.YtnignhaamlmelaaGreatDoorSl10
namespace Go.Sl
open Go

/-- a type of keys: K, told as values by κ -/
class TKey (P : Program) (kt : TypeId) {K : Type} [DecidableEq K] (κ : K → Value) : Prop where
  eq : ∀ (a b : K) (w : World), (Op.equal kt (κ a) (κ b)).run P w = .ok (decide (a = b)) w
  chk : ∀ (e : Bool) (a : K) (w : World), (Instr.checkKey e 10000 kt (κ a)).run P w = .ok () w
  same : ∀ a : K, Instr.sameBits 10000 (κ a) (κ a) = true
  now : ∃ td, P.underlying kt = some td ∧ ((∀ a b : K, Instr.sameNow td (κ a) (κ b) = some (decide (a = b))) ∨ (∀ a b : K, Instr.sameNow td (κ a) (κ b) = none))

section
variable {K V : Type} [DecidableEq K]
def ents (κ : K → Value) (ν : V → Value) : List (K × V) → List Nat → List MapEntry
  | [], _ => []
  | _ :: _, [] => []
  | (k, v) :: l, b :: bs => { key := κ k, val := ν v, born := b } :: ents κ ν l bs
structure MOk (l : List (K × V)) (bs : List Nat) (clk : Nat) : Prop where
  len : bs.length = l.length
  nd : bs.Nodup
  lt : ∀ b ∈ bs, b < clk
  keys : (l.map (·.1)).Nodup
/-- a map at block b that holds l -/
def mp (b : Nat) (κ : K → Value) (ν : V → Value) (l : List (K × V)) : SP := rep (fun g : List Nat × Nat => MOk l g.1 g.2) fun g => [pt b (.map (ents κ ν l g.1).toArray g.2)]
/-- what is under a key -/
def look : List (K × V) → K → Option V
  | [], _ => none
  | (k', v) :: l, k => if k = k' then some v else look l k
/-- a key's value is set -/
def upd : List (K × V) → K → V → List (K × V)
  | [], k, v => [(k, v)]
  | (k', v') :: l, k, v => if k = k' then (k, v) :: l else (k', v') :: upd l k v
def del : List (K × V) → K → List (K × V)
  | [], _ => []
  | (k', v') :: l, k => if k = k' then l else (k', v') :: del l k

theorem look_none {l : List (K × V)} {k : K} : look l k = none ↔ k ∉ l.map (·.1) := by
  induction l with
  | nil => simp [look]
  | cons x l ih =>
    obtain ⟨k', v⟩ := x
    simp only [look, List.map_cons, List.mem_cons, not_or]
    split
    · rename_i h; simp [h]
    · rename_i h; simp [h, ih]
theorem look_mem {l : List (K × V)} {k : K} {v : V} (h : look l k = some v) : (k, v) ∈ l := by
  induction l with
  | nil => simp [look] at h
  | cons x l ih =>
    obtain ⟨k', v'⟩ := x
    simp only [look] at h
    split at h
    · rename_i e; cases h; simp [e]
    · exact List.mem_cons_of_mem _ (ih h)
theorem mem_look {l : List (K × V)} (hn : (l.map (·.1)).Nodup) {k : K} {v : V} (h : (k, v) ∈ l) : look l k = some v := by
  induction l with
  | nil => simp at h
  | cons x l ih =>
    obtain ⟨k', v'⟩ := x
    simp only [List.map_cons, List.nodup_cons] at hn
    simp only [look]
    rcases List.mem_cons.1 h with e | h
    · cases e; simp
    · have : k ≠ k' := fun e => hn.1 (by rw [← e]; exact List.mem_map.2 ⟨_, h, rfl⟩)
      rw [if_neg this]; exact ih hn.2 h
theorem look_upd {l : List (K × V)} {k j : K} {v : V} : look (upd l k v) j = if j = k then some v else look l j := by
  induction l with
  | nil => simp [upd, look]
  | cons x l ih =>
    obtain ⟨k', v'⟩ := x
    simp only [upd]
    split
    · rename_i e; subst e; simp only [look]; split <;> simp_all
    · rename_i e
      simp only [look, ih]
      split
      · rename_i e2; subst e2; rw [if_neg (fun h => e h.symm)]
      · rfl
theorem keys_upd {l : List (K × V)} {k : K} {v : V} : (upd l k v).map (·.1) = if k ∈ l.map (·.1) then l.map (·.1) else l.map (·.1) ++ [k] := by
  induction l with
  | nil => simp [upd]
  | cons x l ih =>
    obtain ⟨k', v'⟩ := x
    simp only [upd]
    split
    · rename_i e; subst e; simp
    · rename_i e
      simp only [List.map_cons, ih, List.mem_cons, e, false_or]
      split <;> simp
theorem nodup_upd {l : List (K × V)} (h : (l.map (·.1)).Nodup) (k : K) (v : V) : ((upd l k v).map (·.1)).Nodup := by
  rw [keys_upd]
  split
  · exact h
  · rename_i hk
    rw [List.nodup_append]
    exact ⟨h, by simp, fun a ha b hb => by simp at hb; subst hb; exact fun e => hk (e ▸ ha)⟩
theorem del_eq {l : List (K × V)} (hn : (l.map (·.1)).Nodup) (k : K) : del l k = l.filter (fun x => x.1 ≠ k) := by
  induction l with
  | nil => simp [del]
  | cons x l ih =>
    obtain ⟨k', v'⟩ := x
    simp only [List.map_cons, List.nodup_cons] at hn
    simp only [del]
    split
    · rename_i e; subst e
      rw [List.filter_cons_of_neg (by simp)]
      symm
      apply List.filter_eq_self.2
      intro y hy
      have : y.1 ≠ k := fun e => hn.1 (by rw [← e]; exact List.mem_map.2 ⟨_, hy, rfl⟩)
      simpa using this
    · rename_i e
      rw [List.filter_cons_of_pos (by simpa using fun h => e h.symm), ih hn.2]
theorem look_del {l : List (K × V)} (hn : (l.map (·.1)).Nodup) {k j : K} : look (del l k) j = if j = k then none else look l j := by
  induction l with
  | nil => simp [del, look]
  | cons x l ih =>
    obtain ⟨k', v'⟩ := x
    simp only [List.map_cons, List.nodup_cons] at hn
    simp only [del]
    split
    · rename_i e; subst e
      split
      · rename_i e2; subst e2; exact look_none.2 hn.1
      · rename_i e2; simp only [look]; rw [if_neg e2]
    · rename_i e
      simp only [look, ih hn.2]
      split
      · rename_i e2; subst e2; rw [if_neg (fun h => e h.symm)]
      · rfl
theorem nodup_del {l : List (K × V)} (h : (l.map (·.1)).Nodup) (k : K) : ((del l k).map (·.1)).Nodup := by
  rw [del_eq h]
  exact (List.Sublist.map _ List.filter_sublist).nodup h

/-! ### The model's search for a key -/
variable {P : Program} {kt : TypeId} {κ : K → Value} {ν : V → Value}
def pos : List (K × V) → K → Nat → Option (Nat × V)
  | [], _, _ => none
  | (k', v) :: l, k, i => if k = k' then some (i, v) else pos l k (i + 1)
theorem findAsking_run [h : TKey P kt κ] (k : K) (w : World) : ∀ (l : List (K × V)) (bs : List Nat) (i : Nat), bs.length = l.length → (Instr.findAsking kt (κ k) (ents κ ν l bs) i).run P w = .ok ((pos l k i).map fun x => (x.1, ν x.2)) w
  | [], bs, i, _ => by simp [ents, Instr.findAsking, pos]
  | (k', v) :: l, [], i, hl => by simp at hl
  | (k', v) :: l, b :: bs, i, hl => by
    simp only [ents, Instr.findAsking, Sem.run_bind, h.eq, Result.andThen_ok, pos]
    by_cases e : k = k'
    · simp [e]
    · simpa [e] using findAsking_run k w l bs (i + 1) (by simpa using hl)
theorem findNow_run {td : TypeDesc} (h : ∀ a b : K, Instr.sameNow td (κ a) (κ b) = some (decide (a = b))) (k : K) : ∀ (l : List (K × V)) (bs : List Nat) (i : Nat), bs.length = l.length → Instr.findNow td (κ k) (ents κ ν l bs) i = some ((pos l k i).map fun x => (x.1, ν x.2))
  | [], bs, i, _ => by simp [ents, Instr.findNow, pos]
  | (k', v) :: l, [], i, hl => by simp at hl
  | (k', v) :: l, b :: bs, i, hl => by
    simp only [ents, Instr.findNow, h, pos]
    by_cases e : k = k'
    · simp [e]
    · simpa [e] using findNow_run h k l bs (i + 1) (by simpa using hl)
theorem findKey_run [h : TKey P kt κ] (k : K) (w : World) (l : List (K × V)) (bs : List Nat) (hl : bs.length = l.length) : (Instr.findKey kt (κ k) (ents κ ν l bs)).run P w = .ok ((pos l k 0).map fun x => (x.1, ν x.2)) w := by
  obtain ⟨td, ht, hn⟩ := h.now
  unfold Instr.findKey
  rcases hn with hn | hn
  · simp only [Sem.run_bind, run_underlying ht, Result.andThen_ok, findNow_run hn k l bs 0 hl, Sem.run_pure]
  · cases l with
    | nil => simp [run_underlying ht, ents, Instr.findNow, pos]
    | cons x l =>
      obtain ⟨k', v⟩ := x
      cases bs with
      | nil => simp at hl
      | cons b bs =>
        have : Instr.findNow td (κ k) (ents κ ν ((k', v) :: l) (b :: bs)) 0 = none := by simp [ents, Instr.findNow, hn]
        simp only [Sem.run_bind, run_underlying ht, Result.andThen_ok, this]
        exact findAsking_run k w _ _ 0 hl
theorem pos_look : ∀ (l : List (K × V)) (k : K) (i : Nat), (pos l k i).map (·.2) = look l k
  | [], _, _ => rfl
  | (k', v) :: l, k, i => by
    simp only [pos, look]
    split
    · rfl
    · exact pos_look l k (i + 1)
theorem ents_len {K V : Type} {κ : K → Value} {ν : V → Value} : ∀ (l : List (K × V)) (bs : List Nat), bs.length = l.length → (ents κ ν l bs).length = l.length
  | [], _, _ => rfl
  | _ :: _, [], h => by simp at h
  | (k, v) :: l, b :: bs, h => by simp [ents, ents_len l bs (by simpa using h)]
/-- where a key stands -/
theorem pos_some : ∀ (l : List (K × V)) (k : K) (i j : Nat) (v : V), pos l k i = some (j, v) → ∃ l1 l2, l = l1 ++ (k, v) :: l2 ∧ j = i + l1.length ∧ k ∉ l1.map (·.1)
  | [], _, _, _, _, h => by simp [pos] at h
  | (k', v') :: l, k, i, j, v, h => by
    simp only [pos] at h
    split at h
    · rename_i e; cases h; subst e; exact ⟨[], l, rfl, by simp, by simp⟩
    · rename_i e
      obtain ⟨l1, l2, e1, e2, e3⟩ := pos_some l k (i + 1) j v h
      exact ⟨(k', v') :: l1, l2, by simp [e1], by simp [e2]; omega, by simp [e]; simpa using e3⟩
theorem ents_append {K V : Type} {κ : K → Value} {ν : V → Value} : ∀ (l1 l2 : List (K × V)) (b1 b2 : List Nat), b1.length = l1.length → ents κ ν (l1 ++ l2) (b1 ++ b2) = ents κ ν l1 b1 ++ ents κ ν l2 b2
  | [], l2, b1, b2, h => by
    obtain rfl := List.length_eq_zero_iff.1 h
    simp [ents]
  | (k, v) :: l1, l2, [], b2, h => by simp at h
  | (k, v) :: l1, l2, b :: b1, b2, h => by simp [ents, ents_append l1 l2 b1 b2 (by simpa using h)]

/-! ### The rules -/
theorem run_getO {w : World} {b : Nat} {es : Array MapEntry} {c : Nat} (h : w.heap[b]? = some (.map es c)) : (getObj b).run P w = .ok (.map es c) w := by simp [getObj, Sem.run, h]
theorem run_setO {w : World} {b : Nat} {es : Array MapEntry} {c : Nat} (o' : Obj) (h : w.heap[b]? = some (.map es c)) : (setObj b o').run P w = .ok () (w.putObj b o') := by simp [setObj, Sem.run, h, World.putObj]

theorem mp_open {K V : Type} {κ : K → Value} {ν : V → Value} {b : Nat} {l : List (K × V)} {R : List SP} {h : Hp} (s : Sat (mp b κ ν l :: R) h) : ∃ bs clk, MOk l bs clk ∧ Sat (pt b (.map (ents κ ν l bs).toArray clk) :: R) h := by
  obtain ⟨⟨bs, clk⟩, h1, h2⟩ := rep_open h s
  exact ⟨bs, clk, h1, h2⟩
theorem mp_shut {K V : Type} {κ : K → Value} {ν : V → Value} {b : Nat} {l : List (K × V)} {R : List SP} {h : Hp} {bs : List Nat} {clk : Nat} (hm : MOk l bs clk) (s : Sat (pt b (.map (ents κ ν l bs).toArray clk) :: R) h) : Sat (mp b κ ν l :: R) h :=
  rep_shut (φ := fun g : List Nat × Nat => MOk l g.1 g.2) (L := fun g => [pt b (.map (ents κ ν l g.1).toArray g.2)]) (bs, clk) hm h s

variable {r : Option Nat} {ops : Array Oper} {K0 : Ko} {p p' : Plan} {n : Nat} {m m' : List (Nat × Value)} {ds : List Deferred} {H R : List SP}

/-- a new map -/
theorem r_mm {K V : Type} (κ : K → Value) (ν : V → Value) {d k : Nat} {t : TypeId} (q : ∀ b, Run P r ops K0 p' ⟨n, (d, .map (some b)) :: m, ds⟩ (mp b κ ν [] :: H))
    (h : stepM ops p n m = some (some d, .makeMap t none, k, p') := by rfl) (hk : Nat.ble 2 k = true := by rfl) : Run P r ops K0 p ⟨n, m, ds⟩ H :=
  act_of (N := fun v H' => ∃ b, v = .map (some b) ∧ H' = mp b κ ν [] :: H) h hk (fun o ho => ef_of (by simp [ho]) fun e w ha hS => by
    refine ⟨_, w.alloc (.map #[] 0), _, .inl ?_, ⟨w.heap.size, rfl, rfl⟩, ?_⟩
    · simp [execOp, ho, Instr.makeMap]
    · exact mp_shut (l := []) (bs := []) (clk := 0) ⟨rfl, by simp, by simp, by simp⟩ (sat_alloc hS)) fun v H' ⟨b, e1, e2⟩ => by subst e1; subst e2; exact q b

theorem qt_look [T : Ty P] {κ : K → Value} {ν : V → Value} {l : List (K × V)} {k : K} {z : V} {o : Oper} {x y : Operand} {t et : TypeId} {b : Nat} {ok : Bool} {a1 : Value} {a2 : List Value} {a3 a4 : Nat} {iz : TyI}
    (hi : tget T.tab t = some ⟨.map kt et, a1, a2, a3, a4⟩) (hz : tget T.tab et = some iz) (hk : TKey P kt κ) (hzv : iz.z = ν z)
    (hs : Sel H (mp b κ ν l) R) (ho : o.op = .lookup t x y ok) (hx : Env.ev ⟨n, m, ds⟩ x = some (.map (some b))) (hy : Env.ev ⟨n, m, ds⟩ y = some (κ k)) :
    Qt P r o ⟨n, m, ds⟩ H (if ok then .tuple #[ν ((look l k).getD z), .bool (look l k).isSome] else ν ((look l k).getD z)) :=
  qt_of (by simp [ho]) fun e w ha hS => by
    have hT := (ty_get hi).2.2.1
    have hZ := (ty_get hz).1
    obtain ⟨bs, clk, hm, s⟩ := mp_open (hs.ent _ hS)
    have hg := run_getO (P := P) (Sat.pt_get s)
    have hf := findKey_run (kt := kt) (κ := κ) (ν := ν) (P := P) k w l bs hm.len
    have hl := pos_look l k 0
    have hzr : (zeroValue et).run P w = .ok (ν z) w := by rw [← hzv]; exact run_zeroValue hZ w
    simp only [execOp, ho, ha.ev hx, ha.ev hy, Instr.lookup, Sem.run_bind, run_underlying hT.out, Result.andThen_ok, hg, Sem.run_pure, hk.chk]
    rw [hf]
    cases hp : pos l k 0 with
    | none =>
      rw [hp] at hl
      simp only [Option.map_none] at hl
      simp [hzr, ← hl]
    | some x =>
      rw [hp] at hl
      simp only [Option.map_some] at hl
      simp [← hl]
/-- what is under a key, or the zero -/
theorem r_lk [T : Ty P] {κ : K → Value} {ν : V → Value} (l : List (K × V)) (kk : K) (z : V) {d k : Nat} {x y : Operand} {t et : TypeId} {b : Nat} {a1 : Value} {a2 : List Value} {a3 a4 : Nat} {iz : TyI} {v : Value}
    (hs : Sel H (mp b κ ν l) R) (q : Run P r ops K0 p' ⟨n, (d, v) :: m, ds⟩ H)
    (h : stepM ops p n m = some (some d, .lookup t x y false, k, p') := by rfl) (hx : Env.ev ⟨n, m, []⟩ x = some (.map (some b)) := by rfl) (hy : Env.ev ⟨n, m, []⟩ y = some (κ kk) := by rfl)
    (hi : tget T.tab t = some ⟨.map kt et, a1, a2, a3, a4⟩ := by rfl) (hz : tget T.tab et = some iz := by rfl) (hkt : TKey P kt κ := by infer_instance) (hzv : iz.z = ν z := by rfl) (hv : ν ((look l kk).getD z) = v := by rfl) (hk : Nat.ble 1 k = true := by rfl) : Run P r ops K0 p ⟨n, m, ds⟩ H := by
  rw [ev_ds (ds := ds)] at hx hy
  subst hv
  exact read_of h hk (fun o ho => by simpa using qt_look hi hz hkt hzv hs ho hx hy) q
/-- and whether there is anything -/
theorem r_lo [T : Ty P] {κ : K → Value} {ν : V → Value} (l : List (K × V)) (kk : K) (z : V) {d k : Nat} {x y : Operand} {t et : TypeId} {b : Nat} {a1 : Value} {a2 : List Value} {a3 a4 : Nat} {iz : TyI} {v : Value}
    (hs : Sel H (mp b κ ν l) R) (q : Run P r ops K0 p' ⟨n, (d, .tuple #[v, .bool (look l kk).isSome]) :: m, ds⟩ H)
    (h : stepM ops p n m = some (some d, .lookup t x y true, k, p') := by rfl) (hx : Env.ev ⟨n, m, []⟩ x = some (.map (some b)) := by rfl) (hy : Env.ev ⟨n, m, []⟩ y = some (κ kk) := by rfl)
    (hi : tget T.tab t = some ⟨.map kt et, a1, a2, a3, a4⟩ := by rfl) (hz : tget T.tab et = some iz := by rfl) (hkt : TKey P kt κ := by infer_instance) (hzv : iz.z = ν z := by rfl) (hv : ν ((look l kk).getD z) = v := by rfl) (hk : Nat.ble 1 k = true := by rfl) : Run P r ops K0 p ⟨n, m, ds⟩ H := by
  rw [ev_ds (ds := ds)] at hx hy
  subst hv
  exact read_of h hk (fun o ho => by simpa using qt_look hi hz hkt hzv hs ho hx hy) q
/-- how many -/
theorem r_ml [T : Ty P] {K V : Type} {κ : K → Value} {ν : V → Value} {l : List (K × V)} {d k : Nat} {x : Operand} {t et : TypeId} {b : Nat} {a1 : Value} {a2 : List Value} {a3 a4 : Nat}
    (hs : Sel H (mp b κ ν l) R) (q : Run P r ops K0 p' ⟨n, (d, .int .i64 (l.length : Int)) :: m, ds⟩ H)
    (h : stepM ops p n m = some (some d, .call ⟨.builtin .len, #[x], #[t]⟩, k, p') := by rfl) (hx : Env.ev ⟨n, m, []⟩ x = some (.map (some b)) := by rfl)
    (hi : tget T.tab t = some ⟨.map kt et, a1, a2, a3, a4⟩ := by rfl) (hk : Nat.ble 1 k = true := by rfl) : Run P r ops K0 p ⟨n, m, ds⟩ H := by
  rw [ev_ds (ds := ds)] at hx
  refine read_of h hk (fun o ho => qt_of (by simp [ho]) fun e w ha hS => ?_) q
  have hT := (ty_get hi).2.2.1
  obtain ⟨bs, clk, hm, s⟩ := mp_open (hs.ent _ hS)
  have hg := run_getO (P := P) (Sat.pt_get s)
  simp [execOp, ho, resolve, invoke, builtin, Builtin.len_, ha.ev hx, run_underlying hT.out, hg, goInt, ents_len l bs hm.len]

theorem upd_pos : ∀ (l1 l2 : List (K × V)) (k : K) (v u : V), k ∉ l1.map (·.1) → upd (l1 ++ (k, u) :: l2) k v = l1 ++ (k, v) :: l2
  | [], l2, k, v, u, _ => by simp [upd]
  | (k', v') :: l1, l2, k, v, u, h => by
    simp only [List.map_cons, List.mem_cons, not_or] at h
    simp [upd, h.1, upd_pos l1 l2 k v u h.2]
theorem upd_new : ∀ (l : List (K × V)) (k : K) (v : V), look l k = none → upd l k v = l ++ [(k, v)]
  | [], _, _, _ => rfl
  | (k', v') :: l, k, v, h => by
    simp only [look] at h
    split at h
    · cases h
    · rename_i e; simp [upd, e, upd_new l k v h]
theorem del_pos : ∀ (l1 l2 : List (K × V)) (k : K) (u : V), k ∉ l1.map (·.1) → del (l1 ++ (k, u) :: l2) k = l1 ++ l2
  | [], l2, k, u, _ => by simp [del]
  | (k', v') :: l1, l2, k, u, h => by
    simp only [List.map_cons, List.mem_cons, not_or] at h
    simp [del, h.1, del_pos l1 l2 k u h.2]
theorem del_none : ∀ (l : List (K × V)) (k : K), look l k = none → del l k = l
  | [], _, _ => rfl
  | (k', v') :: l, k, h => by
    simp only [look] at h
    split at h
    · cases h
    · rename_i e; simp [del, e, del_none l k h]
theorem modify_mid {α : Type} (f : α → α) : ∀ (a : List α) (x : α) (c : List α), (a ++ x :: c).modify a.length f = a ++ f x :: c
  | [], x, c => by simp
  | y :: a, x, c => by simpa using modify_mid f a x c
theorem bs_split {K V : Type} {l1 l2 : List (K × V)} {x : K × V} {bs : List Nat} (h : bs.length = (l1 ++ x :: l2).length) : ∃ b1 b0 b2, bs = b1 ++ b0 :: b2 ∧ b1.length = l1.length ∧ b2.length = l2.length := by
  have hl : l1.length < bs.length := by rw [h]; simp
  refine ⟨bs.take l1.length, bs[l1.length], bs.drop (l1.length + 1), ?_, by simp; omega, by simp [h]; omega⟩
  rw [List.getElem_cons_drop, List.take_append_drop]

/-- a key's value is set -/
theorem r_up [T : Ty P] {κ : K → Value} {ν : V → Value} (l : List (K × V)) (kk : K) (v : V) {k : Nat} {x y u : Operand} {t et : TypeId} {b : Nat} {a1 : Value} {a2 : List Value} {a3 a4 : Nat}
    (hs : Sel H (mp b κ ν l) R) (q : Run P r ops K0 p' ⟨n, m, ds⟩ (mp b κ ν (upd l kk v) :: R))
    (h : stepM ops p n m = some (none, .mapUpdate t x y u, k, p') := by rfl) (hx : Env.ev ⟨n, m, []⟩ x = some (.map (some b)) := by rfl) (hy : Env.ev ⟨n, m, []⟩ y = some (κ kk) := by rfl) (hu : Env.ev ⟨n, m, []⟩ u = some (ν v) := by rfl)
    (hi : tget T.tab t = some ⟨.map kt et, a1, a2, a3, a4⟩ := by rfl) (hkt : TKey P kt κ := by infer_instance) (hk : Nat.ble 2 k = true := by rfl) : Run P r ops K0 p ⟨n, m, ds⟩ H := by
  rw [ev_ds (ds := ds)] at hx hy hu
  refine act_of (N := fun _ H' => H' = mp b κ ν (upd l kk v) :: R) h hk (fun o ho => ef_of (by simp [ho]) fun e w ha hS => ?_) fun v' H' e => by subst e; exact q
  have hT := (ty_get hi).2.2.1
  obtain ⟨bs, clk, hm, s⟩ := mp_open (hs.ent _ hS)
  have hget := Sat.pt_get s
  have hg := run_getO (P := P) hget
  have hset := fun o' => run_setO (P := P) o' hget
  have hf := findKey_run (kt := kt) (κ := κ) (ν := ν) (P := P) kk w l bs hm.len
  have hpl := pos_look l kk 0
  cases hp : pos l kk 0 with
  | none =>
    rw [hp] at hf hpl
    have hln : look l kk = none := by simpa using hpl.symm
    refine ⟨undef, w.putObj b (.map ((ents κ ν l bs).toArray.push { key := κ kk, val := ν v, born := clk }) (clk + 1)), _, .inr ⟨?_, rfl⟩, rfl, ?_⟩
    · simp only [execOp, ho, ha.ev hx, ha.ev hy, ha.ev hu, Instr.mapUpdate, Sem.run_bind, run_underlying hT.out, Result.andThen_ok, hg, hkt.chk]
      rw [hf]
      simp [hset]
    · have e1 : ((ents κ ν l bs).toArray.push { key := κ kk, val := ν v, born := clk }) = (ents κ ν (upd l kk v) (bs ++ [clk])).toArray := by
        rw [upd_new l kk v hln, ents_append l [(kk, v)] bs [clk] hm.len]
        simp [ents]
      rw [e1]
      refine mp_shut (bs := bs ++ [clk]) (clk := clk + 1) ⟨by rw [upd_new l kk v hln]; simp [hm.len], ?_, fun x hx => ?_, nodup_upd hm.keys _ _⟩ (sat_put s)
      · rw [List.nodup_append]
        exact ⟨hm.nd, by simp, fun a ha b hb => by simp at hb; subst hb; exact Nat.ne_of_lt (hm.lt a ha)⟩
      · rcases List.mem_append.1 hx with hx | hx
        · have := hm.lt x hx; omega
        · simp at hx; omega
  | some x0 =>
    obtain ⟨j, u0⟩ := x0
    rw [hp] at hf
    obtain ⟨l1, l2, e1, e2, e3⟩ := pos_some l kk 0 j u0 hp
    subst e1
    obtain ⟨b1, b0, b2, e4, e5, e6⟩ := bs_split hm.len
    subst e4
    have ej : j = l1.length := by omega
    have hE : ents κ ν (l1 ++ (kk, u0) :: l2) (b1 ++ b0 :: b2) = ents κ ν l1 b1 ++ { key := κ kk, val := ν u0, born := b0 } :: ents κ ν l2 b2 := by rw [ents_append l1 _ b1 _ e5]; rfl
    have hj : (ents κ ν l1 b1).length = j := by rw [ents_len l1 b1 e5, ej]
    have hke : (((ents κ ν (l1 ++ (kk, u0) :: l2) (b1 ++ b0 :: b2)).toArray[j]?.map (·.key)).getD (κ kk)) = κ kk := by
      rw [hE]; simp [← hj]
    refine ⟨undef, w.putObj b (.map ((ents κ ν (l1 ++ (kk, u0) :: l2) (b1 ++ b0 :: b2)).toArray.modify j fun e => { e with key := κ kk, val := ν v }) clk), _, .inr ⟨?_, rfl⟩, rfl, ?_⟩
    · simp only [execOp, ho, ha.ev hx, ha.ev hy, ha.ev hu, Instr.mapUpdate, Sem.run_bind, run_underlying hT.out, Result.andThen_ok, hg, hkt.chk]
      rw [hf]
      simp only [Option.map_some, Sem.run_bind, hke, Instr.keyThatStays, hkt.same, if_true, Sem.run_pure, Result.andThen_ok, hset]
    · have e7 : ((ents κ ν (l1 ++ (kk, u0) :: l2) (b1 ++ b0 :: b2)).toArray.modify j fun e => { e with key := κ kk, val := ν v }) = (ents κ ν (upd (l1 ++ (kk, u0) :: l2) kk v) (b1 ++ b0 :: b2)).toArray := by
        rw [upd_pos l1 l2 kk v u0 e3, hE, ents_append l1 _ b1 _ e5]
        apply Array.toList_inj.1
        simp only [List.modify_toArray, ents]
        rw [← hj, modify_mid]
      rw [e7]
      refine mp_shut (bs := b1 ++ b0 :: b2) (clk := clk) ⟨?_, hm.nd, hm.lt, nodup_upd hm.keys _ _⟩ (sat_put s)
      rw [hm.len, upd_pos l1 l2 kk v u0 e3]; simp

/-- a key's entry is taken out -/
theorem r_dl [T : Ty P] {κ : K → Value} {ν : V → Value} (l : List (K × V)) (kk : K) {d : Option Nat} {k : Nat} {x y : Operand} {t t' et : TypeId} {b : Nat} {a1 : Value} {a2 : List Value} {a3 a4 : Nat}
    (hs : Sel H (mp b κ ν l) R) (q : Run P r ops K0 p' ⟨n, m', ds⟩ (mp b κ ν (del l kk) :: R))
    (h : stepM ops p n m = some (d, .call ⟨.builtin .delete, #[x, y], #[t, t']⟩, k, p') := by rfl) (hx : Env.ev ⟨n, m, []⟩ x = some (.map (some b)) := by rfl) (hy : Env.ev ⟨n, m, []⟩ y = some (κ kk) := by rfl)
    (hi : tget T.tab t = some ⟨.map kt et, a1, a2, a3, a4⟩ := by rfl) (hkt : TKey P kt κ := by infer_instance) (hm' : putO d (.tuple #[]) m = some m' := by rfl) (hk : Nat.ble 2 k = true := by rfl) : Run P r ops K0 p ⟨n, m, ds⟩ H := by
  rw [ev_ds (ds := ds)] at hx hy
  refine act_of (N := fun v H' => v = .tuple #[] ∧ H' = mp b κ ν (del l kk) :: R) h hk (fun o ho => ef_of (by simp [ho]) fun e w ha hS => ?_) fun v' H' ⟨e1, e2⟩ => by subst e1; subst e2; rw [putO_eq hm']; exact q
  have hT := (ty_get hi).2.2.1
  obtain ⟨bs, clk, hm, s⟩ := mp_open (hs.ent _ hS)
  have hget := Sat.pt_get s
  have hg := run_getO (P := P) hget
  have hset := fun o' => run_setO (P := P) o' hget
  have hf := findKey_run (kt := kt) (κ := κ) (ν := ν) (P := P) kk w l bs hm.len
  have hpl := pos_look l kk 0
  cases hp : pos l kk 0 with
  | none =>
    rw [hp] at hf hpl
    have hln : look l kk = none := by simpa using hpl.symm
    refine ⟨.tuple #[], w.putObj b (.map (ents κ ν l bs).toArray clk), _, .inl ?_, ⟨rfl, rfl⟩, ?_⟩
    · simp only [execOp, ho, resolve, invoke, builtin, Builtin.delete_, Sem.run_bind, Sem.run_pure, List.map_toArray, List.map_cons, List.map_nil, ha.ev hx, ha.ev hy, Result.andThen_ok, run_underlying hT.out, hg, hkt.chk]
      simp [run_underlying hT.out, hg, hkt.chk, hf, hset]
    · rw [del_none l kk hln]; exact mp_shut hm (sat_put s)
  | some x0 =>
    obtain ⟨j, u0⟩ := x0
    rw [hp] at hf
    obtain ⟨l1, l2, e1, e2, e3⟩ := pos_some l kk 0 j u0 hp
    subst e1
    obtain ⟨b1, b0, b2, e4, e5, e6⟩ := bs_split hm.len
    subst e4
    have ej : j = l1.length := by omega
    have hE : ents κ ν (l1 ++ (kk, u0) :: l2) (b1 ++ b0 :: b2) = ents κ ν l1 b1 ++ { key := κ kk, val := ν u0, born := b0 } :: ents κ ν l2 b2 := by rw [ents_append l1 _ b1 _ e5]; rfl
    have hj : (ents κ ν l1 b1).length = j := by rw [ents_len l1 b1 e5, ej]
    refine ⟨.tuple #[], w.putObj b (.map ((ents κ ν (l1 ++ (kk, u0) :: l2) (b1 ++ b0 :: b2)).toArray.eraseIdxIfInBounds j) clk), _, .inl ?_, ⟨rfl, rfl⟩, ?_⟩
    · simp only [execOp, ho, resolve, invoke, builtin, Builtin.delete_, Sem.run_bind, Sem.run_pure, List.map_toArray, List.map_cons, List.map_nil, ha.ev hx, ha.ev hy, Result.andThen_ok, run_underlying hT.out, hg, hkt.chk]
      simp [run_underlying hT.out, hg, hkt.chk, hf, hset]
    · have e7 : ((ents κ ν (l1 ++ (kk, u0) :: l2) (b1 ++ b0 :: b2)).toArray.eraseIdxIfInBounds j) = (ents κ ν (del (l1 ++ (kk, u0) :: l2) kk) (b1 ++ b2)).toArray := by
        rw [del_pos l1 l2 kk u0 e3, hE, ents_append l1 _ b1 _ e5]
        apply Array.toList_inj.1
        simp only [Array.eraseIdxIfInBounds]
        rw [dif_pos (by simp; omega)]
        simp only [List.eraseIdx_toArray]
        rw [List.eraseIdx_append_of_length_le (show (ents κ ν l1 b1).length ≤ j by omega)]
        simp [hj]
      rw [e7]
      have hnd := hm.nd
      refine mp_shut (bs := b1 ++ b2) (clk := clk) ⟨by rw [del_pos l1 l2 kk u0 e3]; simp [e5, e6], ?_, fun x hx => hm.lt x (by rcases List.mem_append.1 hx with h | h <;> simp [h]), nodup_del hm.keys _⟩ (sat_put s)
      exact (List.Sublist.append_left (List.sublist_cons_self b0 b2) b1).nodup hnd
end
end Go.Sl
