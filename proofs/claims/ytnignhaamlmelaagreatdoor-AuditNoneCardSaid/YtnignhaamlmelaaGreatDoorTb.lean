import Derived.Test.YtnignhaamlmelaaGreatDoorSt
namespace Go.Proofs
open Go Go.Sl
set_option maxRecDepth 4000
attribute [local irreducible] Ex Run Ct Kt.body Sat Ent
/-! ### Rows of structs -/
theorem flat_len {α : Type} (f : α → List Value) (s : Nat) (hf : ∀ x, (f x).length = s) : ∀ l : List α, ((l.map f).flatten).length = l.length * s
  | [] => by simp
  | x :: l => by simp [hf, flat_len f s hf l, Nat.add_mul, Nat.add_comm]
theorem flat_split {α : Type} (f : α → List Value) (s : Nat) (hf : ∀ x, (f x).length = s) (l : List α) (i : Nat) (x : α) (h : l[i]? = some x) :
    ∃ pre post, (l.map f).flatten = pre ++ f x ++ post ∧ pre.length = i * s ∧ ∀ y : α, ((l.set i y).map f).flatten = pre ++ f y ++ post := by
  obtain ⟨hi, rfl⟩ := List.getElem?_eq_some_iff.1 h
  refine ⟨((l.take i).map f).flatten, ((l.drop (i + 1)).map f).flatten, ?_, ?_, fun y => ?_⟩
  · have e : l = l.take i ++ l[i] :: l.drop (i + 1) := by rw [← List.drop_eq_getElem_cons hi, List.take_append_drop]
    have := congrArg (fun l => (l.map f).flatten) e
    simpa only [List.map_append, List.map_cons, List.flatten_append, List.flatten_cons, List.append_assoc] using this
  · rw [flat_len f s hf, List.length_take, Nat.min_eq_left (by omega)]
  · rw [List.set_eq_take_append_cons_drop, if_pos hi]; simp
/-- one cell of a row of structs -/
theorem flat_get {α : Type} (f : α → List Value) (s : Nat) (hf : ∀ x, (f x).length = s) (l : List α) (i k : Nat) (x : α) (v : Value) (h : l[i]? = some x) (hv : (f x)[k]? = some v) : ((l.map f).flatten)[0 + i * s + k]? = some v := by
  obtain ⟨pre, post, e, e2, _⟩ := flat_split f s hf l i x h
  have hk : k < (f x).length := (List.getElem?_eq_some_iff.1 hv).1
  rw [e, List.append_assoc, List.getElem?_append_right (by omega), e2, List.getElem?_append_left (by omega), ← hv]
  congr 1; omega
/-- some cells of it -/
theorem flat_sub {α : Type} (f : α → List Value) (s : Nat) (hf : ∀ x, (f x).length = s) (l : List α) (i k n : Nat) (x : α) (vs : List Value) (h : l[i]? = some x) (hv : subC (f x) k n = some vs) :
    ∃ pre post, (l.map f).flatten = pre ++ vs ++ post ∧ pre.length = 0 + i * s + k ∧ vs.length = n := by
  obtain ⟨pre, post, e, e2, _⟩ := flat_split f s hf l i x h
  obtain ⟨p1, p2, e3, e4, e5⟩ := subC_spec _ _ _ _ hv
  exact ⟨pre ++ p1, p2 ++ post, by rw [e, e3]; simp, by simp [e2, e4], e5⟩

/-! ### The table -/
structure EnS where
  addr : Nat
  region : Int
  held : Bool
  pinned : Bool
  deriving DecidableEq
structure SlS where
  gen : Nat
  used : Bool
  e : EnS
  deriving DecidableEq
def EnS.cells (e : EnS) : List Value := [it e.addr, it e.region, .bool e.held, .bool e.pinned]
def SlS.cells (x : SlS) : List Value := [it x.gen, .bool x.used, it x.e.addr, it x.e.region, .bool x.e.held, .bool x.e.pinned]
def SlS.taken (x : SlS) : Bool := x.used || decide (x.gen = 255)
def retired (l : List SlS) : Nat := l.countP fun x => !x.used && decide (x.gen = 255)
def usedN (l : List SlS) : Nat := l.countP fun x => x.used
structure TbOk (l : List SlS) : Prop where
  len1 : 1 ≤ l.length
  len2 : l.length ≤ 4096
  gen : ∀ x ∈ l, x.gen ≤ 255
  pos : ∀ x ∈ l, x.used = true → 1 ≤ x.gen
abbrev tbL (b : Nat) (l : List SlS) (g : Nat × Nat) : List SP :=
  [cl b [.slice (some ⟨g.1, 0, none⟩) l.length l.length, ptr g.2, it (retired l)] 262, cl g.1 (l.map SlS.cells).flatten 296, bmR g.2 (l.map SlS.taken)]

def tbR (b bm : Nat) (l : List SlS) : SP := rep (fun _ : Nat => TbOk l) fun g => tbL b l (g, bm)

theorem taken_count (l : List SlS) : (l.map SlS.taken).count true = usedN l + retired l := by
  induction l with
  | nil => rfl
  | cons x l ih =>
    simp only [List.map_cons, List.count_cons, ih, usedN, retired, List.countP_cons, SlS.taken]
    cases x.used <;> by_cases h : x.gen = 255 <;> simp [h] <;> omega
theorem taken_le (l : List SlS) : usedN l + retired l ≤ l.length := by
  rw [← taken_count]; exact Nat.le_trans List.count_le_length (by simp)

theorem table_Used (b bm : Nat) (l : List SlS) : Ct Tryz.prog 68 [ptr b] [tbR b bm l] (det (it (usedN l)) [tbR b bm l]) := by
  refine ct_intro Tryz.func68 rfl Tryz.ntmps68 Tryz.results68 fun R => e_nf ?_
  refine e_o (by repeat (first | exact Sel.here _ _ | apply Sel.there)) fun g hok => ?_
  have := hok.len2; have h1 := taken_count l; have h2 := taken_le l
  repeat (first | refine r_p ?_ | refine r_l ?_ | refine r_s ?_ | refine r_n fun _ => ?_ | refine r_end ?_ | refine e_r ?_ | refine e_d pl68 ?_ | refine e_j ?_ | refine e_true ?_ | refine e_false ?_ | refine r_tt ?_ | refine r_ff ?_ | refine e_tt ?_ | refine e_ff ?_)
  refine r_cp (bitmap_Count bm _) ?_
  repeat (first | refine r_p ?_ | refine r_l ?_ | refine r_s ?_ | refine r_n fun _ => ?_ | refine r_end ?_ | refine e_r ?_ | refine e_d pl68 ?_ | refine e_j ?_ | refine e_true ?_ | refine e_false ?_ | refine r_tt ?_ | refine r_ff ?_ | refine e_tt ?_ | refine e_ff ?_)
  refine e_ret0 ?_ (hV := ?_)
  · refine n_s g hok ?_
    (refine Prm.ent ?_; repeat (first | exact Prm.refl _ | (apply Prm.take; repeat (first | exact Sel.here _ _ | apply Sel.there)) | refine Prm.drop ?_))
  · simp only [tup]; congr 1; omega
theorem table_Left (b bm : Nat) (l : List SlS) : Ct Tryz.prog 49 [ptr b] [tbR b bm l] (det (it ((l.length - usedN l - retired l : Nat) : Int)) [tbR b bm l]) := by
  refine ct_intro Tryz.func49 rfl Tryz.ntmps49 Tryz.results49 fun R => e_nf ?_
  refine e_o (by repeat (first | exact Sel.here _ _ | apply Sel.there)) fun g hok => ?_
  have := hok.len2; have h1 := taken_count l; have h2 := taken_le l
  repeat (first | refine r_p ?_ | refine r_l ?_ | refine r_s ?_ | refine r_n fun _ => ?_ | refine r_end ?_ | refine e_r ?_ | refine e_d pl49 ?_ | refine e_j ?_ | refine e_true ?_ | refine e_false ?_ | refine r_tt ?_ | refine r_ff ?_ | refine e_tt ?_ | refine e_ff ?_)
  refine r_cp (bitmap_Count bm _) ?_
  repeat (first | refine r_p ?_ | refine r_l ?_ | refine r_s ?_ | refine r_n fun _ => ?_ | refine r_end ?_ | refine e_r ?_ | refine e_d pl49 ?_ | refine e_j ?_ | refine e_true ?_ | refine e_false ?_ | refine r_tt ?_ | refine r_ff ?_ | refine e_tt ?_ | refine e_ff ?_)
  refine e_ret0 ?_ (hV := ?_)
  · refine n_s g hok ?_
    (refine Prm.ent ?_; repeat (first | exact Prm.refl _ | (apply Prm.take; repeat (first | exact Sel.here _ _ | apply Sel.there)) | refine Prm.drop ?_))
  · simp only [tup]; congr 1; omega
theorem table_Retired (b bm : Nat) (l : List SlS) : Ct Tryz.prog 96 [ptr b] [tbR b bm l] (det (it (retired l)) [tbR b bm l]) := by
  refine ct_intro Tryz.func96 rfl Tryz.ntmps96 Tryz.results96 fun R => e_nf ?_
  refine e_o (by repeat (first | exact Sel.here _ _ | apply Sel.there)) fun g hok => ?_
  repeat (first | refine r_p ?_ | refine r_l ?_ | refine r_s ?_ | refine r_n fun _ => ?_ | refine r_end ?_ | refine e_r ?_ | refine e_j ?_ | refine e_true ?_ | refine e_false ?_ | refine r_tt ?_ | refine r_ff ?_ | refine e_tt ?_ | refine e_ff ?_)
  refine e_ret0 ?_
  refine n_s g hok ?_
  (refine Prm.ent ?_; repeat (first | exact Prm.refl _ | (apply Prm.take; repeat (first | exact Sel.here _ _ | apply Sel.there)) | refine Prm.drop ?_))
def en0 : EnS := ⟨0, 0, false, false⟩
def enV (e : EnS) : Value := .agg #[it e.addr, it e.region, .bool e.held, .bool e.pinned]
def slot0 : SlS := ⟨0, false, ⟨0, 0, false, false⟩⟩
theorem table_New (n : Nat) (h : 1 ≤ n) (h2 : n ≤ 4096) :
    Ct Tryz.prog 151 [it n] [] (exi (fun b : Nat × Nat => .tuple #[ptr b.1, it 0]) (fun b => [tbR b.1 b.2 (List.replicate n slot0)]) (fun _ => True)) := by
  refine ct_intro Tryz.func151 rfl Tryz.ntmps151 Tryz.results151 fun R => e_nf ?_
  repeat (first | refine r_p ?_ | refine r_l ?_ | refine r_s ?_ | refine r_n fun _ => ?_ | refine r_end ?_ | refine e_r ?_ | refine e_j ?_ | refine e_true ?_ | refine e_false ?_ | refine r_tt ?_ | refine r_ff ?_ | refine e_tt ?_ | refine e_ff ?_)
  refine r_x (bitmap_New n h (by omega)) fun bm _ => ?_
  repeat (first | refine r_p ?_ | refine r_l ?_ | refine r_s ?_ | refine r_n fun _ => ?_ | refine r_end ?_ | refine e_r ?_ | refine e_j ?_ | refine e_true ?_ | refine e_false ?_ | refine r_tt ?_ | refine r_ff ?_ | refine e_tt ?_ | refine e_ff ?_)
  refine r_mk (c := n) (fun bw => ?_)
  repeat (first | refine r_p ?_ | refine r_l ?_ | refine r_s ?_ | refine r_n fun _ => ?_ | refine r_end ?_ | refine e_r ?_ | refine e_j ?_ | refine e_true ?_ | refine e_false ?_ | refine r_tt ?_ | refine r_ff ?_ | refine e_tt ?_ | refine e_ff ?_)
  refine e_retx (_, bm) trivial ?_
  refine n_s bw ⟨by simpa using h, by simpa using h2, fun x hx => by rw [(List.mem_replicate.1 hx).2]; decide, fun x hx => by rw [(List.mem_replicate.1 hx).2]; decide⟩ ?_
  have e1 : retired (List.replicate n slot0) = 0 := by simp [retired, List.countP_replicate, slot0]
  have e2 : ((List.replicate n slot0).map SlS.cells).flatten = zeros n slot0.cells := by simp [zeros]
  have e3 : (List.replicate n slot0).map SlS.taken = List.replicate n false := by simp [SlS.taken, slot0]
  rw [e1, e2, e3]
  simp only [List.length_replicate]
  (refine Prm.ent ?_; repeat (first | exact Prm.refl _ | (apply Prm.take; repeat (first | exact Sel.here _ _ | apply Sel.there)) | refine Prm.drop ?_))
abbrev cells6 (l : List SlS) : List Value := (l.map SlS.cells).flatten
theorem sl6 : ∀ x : SlS, x.cells.length = 6 := fun _ => rfl
def findT (l : List SlS) (x : Int × Int) : Option (Nat × SlS) :=
  if 0 ≤ x.1 then match l[x.1.toNat]? with
    | some s => if s.used = true ∧ (s.gen : Int) = x.2 then some (x.1.toNat, s) else none
    | none => none
  else none
theorem findT_some {l : List SlS} {x : Int × Int} {i : Nat} {s : SlS} (h : findT l x = some (i, s)) : x = ((i : Int), (s.gen : Int)) ∧ l[i]? = some s ∧ s.used = true := by
  unfold findT at h
  split at h
  · rename_i h0
    split at h
    · rename_i s' hs
      split at h
      · rename_i hu
        cases h
        exact ⟨Prod.ext (by simp; omega) hu.2.symm, hs, hu.1⟩
      · cases h
    · cases h
  · cases h
theorem findT_mk {l : List SlS} {i : Nat} {s : SlS} (h : l[i]? = some s) (hu : s.used = true) : findT l ((i : Int), (s.gen : Int)) = some (i, s) := by
  simp [findT, h, hu]
def findV (g : Nat) : Option (Nat × SlS) → Value
  | some (i, _) => .tuple #[.pointer (some ⟨g, 0 + i * 6, none⟩), it 0]
  | none => .tuple #[.pointer none, it 8]
theorem table_find (b : Nat) (x : Int × Int) (l : List SlS) (g : Nat × Nat) (hok : TbOk l) : Ct Tryz.prog 193 [ptr b, it2 x] (tbL b l g) (det (findV g.1 (findT l x)) (tbL b l g)) := by
  obtain ⟨xi, xg⟩ := x
  have := hok.len2
  refine ct_intro Tryz.func193 rfl Tryz.ntmps193 Tryz.results193 fun R => e_nf ?_
  repeat (first | refine r_p ?_ | refine r_l ?_ | refine r_s ?_ | refine r_n fun _ => ?_ | refine r_end ?_ | refine e_r ?_ | refine e_d pl193 ?_ | refine e_j ?_ | refine e_true ?_ | refine e_false ?_ | refine r_tt ?_ | refine r_ff ?_ | refine e_tt ?_ | refine e_ff ?_)
  by_cases h0 : xi < 0
  · repeat (first | refine r_p ?_ | refine r_l ?_ | refine r_s ?_ | refine r_n fun _ => ?_ | refine r_end ?_ | refine e_r ?_ | refine e_d pl193 ?_ | refine e_j ?_ | refine e_true ?_ | refine e_false ?_ | refine r_tt ?_ | refine r_ff ?_ | refine e_tt ?_ | refine e_ff ?_)
    have e : findT l (xi, xg) = none := by simp [findT, show ¬ 0 ≤ xi by omega]
    rw [e]
    refine e_ret0 ?_
    (refine Prm.ent ?_; repeat (first | exact Prm.refl _ | (apply Prm.take; repeat (first | exact Sel.here _ _ | apply Sel.there)) | refine Prm.drop ?_))
  obtain ⟨k, rfl⟩ := Int.eq_ofNat_of_zero_le (show 0 ≤ xi by omega)
  repeat (first | refine r_p ?_ | refine r_l ?_ | refine r_s ?_ | refine r_n fun _ => ?_ | refine r_end ?_ | refine e_r ?_ | refine e_d pl193 ?_ | refine e_j ?_ | refine e_true ?_ | refine e_false ?_ | refine r_tt ?_ | refine r_ff ?_ | refine e_tt ?_ | refine e_ff ?_)
  by_cases hk : l.length ≤ k
  · repeat (first | refine r_p ?_ | refine r_l ?_ | refine r_s ?_ | refine r_n fun _ => ?_ | refine r_end ?_ | refine e_r ?_ | refine e_d pl193 ?_ | refine e_j ?_ | refine e_true ?_ | refine e_false ?_ | refine r_tt ?_ | refine r_ff ?_ | refine e_tt ?_ | refine e_ff ?_)
    have e : findT l ((k : Int), xg) = none := by simp [findT, List.getElem?_eq_none hk]
    rw [e]
    refine e_ret0 ?_
    (refine Prm.ent ?_; repeat (first | exact Prm.refl _ | (apply Prm.take; repeat (first | exact Sel.here _ _ | apply Sel.there)) | refine Prm.drop ?_))
  have hlt : k < l.length := by omega
  have hs : l[k]? = some l[k] := List.getElem?_eq_getElem hlt
  repeat (first | refine r_p ?_ | refine r_l ?_ | refine r_s ?_ | refine r_n fun _ => ?_ | refine r_end ?_ | refine e_r ?_ | refine e_d pl193 ?_ | refine e_j ?_ | refine e_true ?_ | refine e_false ?_ | refine r_tt ?_ | refine r_ff ?_ | refine e_tt ?_ | refine e_ff ?_)
  refine r_li (v := .bool l[k].used) ?_ ?_
  · exact flat_get SlS.cells 6 sl6 l k 1 _ _ hs rfl
  repeat (first | refine r_p ?_ | refine r_l ?_ | refine r_s ?_ | refine r_n fun _ => ?_ | refine r_end ?_ | refine e_r ?_ | refine e_d pl193 ?_ | refine e_j ?_ | refine e_true ?_ | refine e_false ?_ | refine r_tt ?_ | refine r_ff ?_ | refine e_tt ?_ | refine e_ff ?_)
  cases hu : l[k].used with
  | false =>
    repeat (first | refine r_p ?_ | refine r_l ?_ | refine r_s ?_ | refine r_n fun _ => ?_ | refine r_end ?_ | refine e_r ?_ | refine e_d pl193 ?_ | refine e_j ?_ | refine e_true ?_ | refine e_false ?_ | refine r_tt ?_ | refine r_ff ?_ | refine e_tt ?_ | refine e_ff ?_)
    have e : findT l ((k : Int), xg) = none := by simp [findT, hlt, hu]
    rw [e]
    refine e_ret0 ?_
    (refine Prm.ent ?_; repeat (first | exact Prm.refl _ | (apply Prm.take; repeat (first | exact Sel.here _ _ | apply Sel.there)) | refine Prm.drop ?_))
  | true =>
    repeat (first | refine r_p ?_ | refine r_l ?_ | refine r_s ?_ | refine r_n fun _ => ?_ | refine r_end ?_ | refine e_r ?_ | refine e_d pl193 ?_ | refine e_j ?_ | refine e_true ?_ | refine e_false ?_ | refine r_tt ?_ | refine r_ff ?_ | refine e_tt ?_ | refine e_ff ?_)
    refine r_li (v := it l[k].gen) ?_ ?_
    · exact flat_get SlS.cells 6 sl6 l k 0 _ _ hs rfl
    repeat (first | refine r_p ?_ | refine r_l ?_ | refine r_s ?_ | refine r_n fun _ => ?_ | refine r_end ?_ | refine e_r ?_ | refine e_d pl193 ?_ | refine e_j ?_ | refine e_true ?_ | refine e_false ?_ | refine r_tt ?_ | refine r_ff ?_ | refine e_tt ?_ | refine e_ff ?_)
    by_cases hg : (l[k].gen : Int) = xg
    · repeat (first | refine r_p ?_ | refine r_l ?_ | refine r_s ?_ | refine r_n fun _ => ?_ | refine r_end ?_ | refine e_r ?_ | refine e_d pl193 ?_ | refine e_j ?_ | refine e_true ?_ | refine e_false ?_ | refine r_tt ?_ | refine r_ff ?_ | refine e_tt ?_ | refine e_ff ?_)
      have e : findT l ((k : Int), xg) = some (k, l[k]) := by simp [findT, hlt, hu, hg]
      rw [e]
      refine e_ret0 ?_
      (refine Prm.ent ?_; repeat (first | exact Prm.refl _ | (apply Prm.take; repeat (first | exact Sel.here _ _ | apply Sel.there)) | refine Prm.drop ?_))
    · repeat (first | refine r_p ?_ | refine r_l ?_ | refine r_s ?_ | refine r_n fun _ => ?_ | refine r_end ?_ | refine e_r ?_ | refine e_d pl193 ?_ | refine e_j ?_ | refine e_true ?_ | refine e_false ?_ | refine r_tt ?_ | refine r_ff ?_ | refine e_tt ?_ | refine e_ff ?_)
      have e : findT l ((k : Int), xg) = none := by simp [findT, hlt, hu, hg]
      rw [e]
      refine e_ret0 ?_
      (refine Prm.ent ?_; repeat (first | exact Prm.refl _ | (apply Prm.take; repeat (first | exact Sel.here _ _ | apply Sel.there)) | refine Prm.drop ?_))
def getV : Option (Nat × SlS) → Value
  | some (_, s) => .tuple #[enV s.e, it 0]
  | none => .tuple #[enV en0, it 8]
theorem table_Get (b bm : Nat) (x : Int × Int) (l : List SlS) : Ct Tryz.prog 78 [ptr b, it2 x] [tbR b bm l] (det (getV (findT l x)) [tbR b bm l]) := by
  refine ct_intro Tryz.func78 rfl Tryz.ntmps78 Tryz.results78 fun R => e_nf ?_
  refine e_o (by repeat (first | exact Sel.here _ _ | apply Sel.there)) fun g hok => ?_
  repeat (first | refine r_p ?_ | refine r_l ?_ | refine r_s ?_ | refine r_n fun _ => ?_ | refine r_end ?_ | refine e_r ?_ | refine e_j ?_ | refine e_true ?_ | refine e_false ?_ | refine r_tt ?_ | refine r_ff ?_ | refine e_tt ?_ | refine e_ff ?_)
  refine r_c (table_find b x l (g, bm) hok) ?_
  cases h : findT l x with
  | none =>
    simp only [findV]
    repeat (first | refine r_p ?_ | refine r_l ?_ | refine r_s ?_ | refine r_n fun _ => ?_ | refine r_end ?_ | refine e_r ?_ | refine e_j ?_ | refine e_true ?_ | refine e_false ?_ | refine r_tt ?_ | refine r_ff ?_ | refine e_tt ?_ | refine e_ff ?_)
    refine e_ret0 ?_
    refine n_s g hok ?_
    (refine Prm.ent ?_; repeat (first | exact Prm.refl _ | (apply Prm.take; repeat (first | exact Sel.here _ _ | apply Sel.there)) | refine Prm.drop ?_))
  | some q =>
    obtain ⟨i, s⟩ := q
    simp only [findV]
    repeat (first | refine r_p ?_ | refine r_l ?_ | refine r_s ?_ | refine r_n fun _ => ?_ | refine r_end ?_ | refine e_r ?_ | refine e_j ?_ | refine e_true ?_ | refine e_false ?_ | refine r_tt ?_ | refine r_ff ?_ | refine e_tt ?_ | refine e_ff ?_)
    refine r_lj (vs := s.e.cells) ?_ ?_
    · exact flat_sub SlS.cells 6 sl6 l i 2 4 s _ (findT_some h).2.1 rfl
    repeat (first | refine r_p ?_ | refine r_l ?_ | refine r_s ?_ | refine r_n fun _ => ?_ | refine r_end ?_ | refine e_r ?_ | refine e_j ?_ | refine e_true ?_ | refine e_false ?_ | refine r_tt ?_ | refine r_ff ?_ | refine e_tt ?_ | refine e_ff ?_)
    refine e_ret0 ?_
    refine n_s g hok ?_
    (refine Prm.ent ?_; repeat (first | exact Prm.refl _ | (apply Prm.take; repeat (first | exact Sel.here _ _ | apply Sel.there)) | refine Prm.drop ?_))
theorem TbOk.set {l : List SlS} (h : TbOk l) (i : Nat) (x : SlS) (h1 : x.gen ≤ 255) (h2 : x.used = true → 1 ≤ x.gen) : TbOk (l.set i x) :=
  ⟨by simpa using h.len1, by simpa using h.len2, fun y hy => (List.mem_or_eq_of_mem_set hy).elim (h.gen y) fun e => by subst e; exact h1, fun y hy => (List.mem_or_eq_of_mem_set hy).elim (h.pos y) fun e => by subst e; exact h2⟩
theorem countP_set {α : Type} (p : α → Bool) (l : List α) (i : Nat) (x y : α) (h : l[i]? = some x) (hp : p x = p y) : (l.set i y).countP p = l.countP p := by
  induction l generalizing i with
  | nil => rfl
  | cons z l ih =>
    cases i with
    | zero => simp at h; subst h; simp [List.countP_cons, hp]
    | succ i => simp only [List.set_cons_succ, List.countP_cons, ih i (by simpa using h)]
theorem set_at_same {α : Type} (l : List α) (i : Nat) (x : α) (h : l[i]? = some x) : l.set i x = l := by
  obtain ⟨h1, rfl⟩ := List.getElem?_eq_some_iff.1 h
  exact List.set_getElem_self h1
theorem flat_put {α : Type} (f : α → List Value) (s : Nat) (hf : ∀ x, (f x).length = s) (l : List α) (i k : Nat) (x y : α) (v : Value) (h : l[i]? = some x) (hk : k < s) (hv : (f x).set k v = f y) : ((l.map f).flatten).set (0 + i * s + k) v = ((l.set i y).map f).flatten := by
  obtain ⟨pre, post, e, e2, e3⟩ := flat_split f s hf l i x h
  rw [e, e3, List.append_assoc, List.set_append_right _ _ (by omega), List.set_append_left _ _ (by rw [hf]; omega), ← hv, show 0 + i * s + k - pre.length = k by omega, List.append_assoc]
theorem flat_putS {α : Type} (f : α → List Value) (s : Nat) (hf : ∀ x, (f x).length = s) (l : List α) (i k : Nat) (x y : α) (vs : List Value) (h : l[i]? = some x) (hv : putC (f x) k vs = some (f y)) :
    ∃ pre old post, (l.map f).flatten = pre ++ old ++ post ∧ ((l.set i y).map f).flatten = pre ++ vs ++ post ∧ pre.length = 0 + i * s + k ∧ old.length = vs.length := by
  obtain ⟨pre, post, e, e2, e3⟩ := flat_split f s hf l i x h
  obtain ⟨p1, old, p2, g1, g2, g3, g4⟩ := putC_spec _ _ _ _ hv
  exact ⟨pre ++ p1, old, p2 ++ post, by rw [e, g1]; simp, by rw [e3, g2]; simp, by simp [e2, g3], g4⟩
theorem flat_lt {α : Type} (f : α → List Value) (s : Nat) (hf : ∀ x, (f x).length = s) (l : List α) (i k : Nat) (x : α) (h : l[i]? = some x) (hk : k < s) : 0 + i * s + k < ((l.map f).flatten).length := by
  obtain ⟨pre, post, e, e2, _⟩ := flat_split f s hf l i x h
  rw [e, List.length_append, List.length_append, e2, hf]; omega
def setT (l : List SlS) (x : Int × Int) (e : EnS) : List SlS := match findT l x with
  | some (i, s) => l.set i { s with e := e }
  | none => l
def errT (l : List SlS) (x : Int × Int) : Int := match findT l x with
  | some _ => 0
  | none => 8
theorem setE_len (l : List SlS) (i : Nat) (s : SlS) (e : EnS) (h : l[i]? = some s) : retired (l.set i { s with e := e }) = retired l ∧ (l.set i { s with e := e }).map SlS.taken = l.map SlS.taken := by
  refine ⟨countP_set _ _ _ _ _ h rfl, ?_⟩
  rw [List.map_set]
  exact set_at_same _ _ _ (by rw [List.getElem?_map, h]; rfl)
theorem table_Set (b bm : Nat) (x : Int × Int) (e : EnS) (l : List SlS) : Ct Tryz.prog 136 [ptr b, it2 x, enV e] [tbR b bm l] (det (it (errT l x)) [tbR b bm (setT l x e)]) := by
  refine ct_intro Tryz.func136 rfl Tryz.ntmps136 Tryz.results136 fun R => e_nf ?_
  refine e_o (by repeat (first | exact Sel.here _ _ | apply Sel.there)) fun g hok => ?_
  repeat (first | refine r_p ?_ | refine r_l ?_ | refine r_s ?_ | refine r_n fun _ => ?_ | refine r_end ?_ | refine e_r ?_ | refine e_j ?_ | refine e_true ?_ | refine e_false ?_ | refine r_tt ?_ | refine r_ff ?_ | refine e_tt ?_ | refine e_ff ?_)
  refine r_c (table_find b x l (g, bm) hok) ?_
  cases h : findT l x with
  | none =>
    simp only [findV, setT, errT, h]
    repeat (first | refine r_p ?_ | refine r_l ?_ | refine r_s ?_ | refine r_n fun _ => ?_ | refine r_end ?_ | refine e_r ?_ | refine e_j ?_ | refine e_true ?_ | refine e_false ?_ | refine r_tt ?_ | refine r_ff ?_ | refine e_tt ?_ | refine e_ff ?_)
    refine e_ret0 ?_
    refine n_s g hok ?_
    (refine Prm.ent ?_; repeat (first | exact Prm.refl _ | (apply Prm.take; repeat (first | exact Sel.here _ _ | apply Sel.there)) | refine Prm.drop ?_))
  | some q =>
    obtain ⟨i, s⟩ := q
    obtain ⟨_, hs, hu⟩ := findT_some h
    have hm := List.mem_of_getElem? hs
    simp only [findV, setT, errT, h]
    repeat (first | refine r_p ?_ | refine r_l ?_ | refine r_s ?_ | refine r_n fun _ => ?_ | refine r_end ?_ | refine e_r ?_ | refine e_j ?_ | refine e_true ?_ | refine e_false ?_ | refine r_tt ?_ | refine r_ff ?_ | refine e_tt ?_ | refine e_ff ?_)
    refine r_sj (cs' := ((l.set i { s with e := e }).map SlS.cells).flatten) (vs := e.cells) ?_ ?_
    · exact flat_putS SlS.cells 6 sl6 l i 2 s { s with e := e } _ hs rfl
    repeat (first | refine r_p ?_ | refine r_l ?_ | refine r_s ?_ | refine r_n fun _ => ?_ | refine r_end ?_ | refine e_r ?_ | refine e_j ?_ | refine e_true ?_ | refine e_false ?_ | refine r_tt ?_ | refine r_ff ?_ | refine e_tt ?_ | refine e_ff ?_)
    have hE := setE_len l i s e hs
    refine e_ret0 ?_
    refine n_s g (hok.set i _ (show s.gen ≤ 255 from hok.gen _ hm) (show s.used = true → 1 ≤ s.gen from hok.pos _ hm)) ?_
    rw [hE.1, hE.2, List.length_set]
    (refine Prm.ent ?_; repeat (first | exact Prm.refl _ | (apply Prm.take; repeat (first | exact Sel.here _ _ | apply Sel.there)) | refine Prm.drop ?_))
def dropT (l : List SlS) (x : Int × Int) : List SlS := match findT l x with
  | some (i, s) => l.set i ⟨s.gen, false, en0⟩
  | none => l
theorem countP_set2 {α : Type} (p : α → Bool) (l : List α) (i : Nat) (x y : α) (h : l[i]? = some x) : (l.set i y).countP p + (if p x then 1 else 0) = l.countP p + (if p y then 1 else 0) := by
  induction l generalizing i with
  | nil => simp at h
  | cons z l ih =>
    cases i with
    | zero => simp at h; subst h; simp only [List.set_cons_zero, List.countP_cons]; omega
    | succ i => have := ih i (by simpa using h); simp only [List.set_cons_succ, List.countP_cons]; omega
theorem table_Drop (b bm : Nat) (x : Int × Int) (l : List SlS) : Ct Tryz.prog 143 [ptr b, it2 x] [tbR b bm l] (det (it (errT l x)) [tbR b bm (dropT l x)]) := by
  refine ct_intro Tryz.func143 rfl Tryz.ntmps143 Tryz.results143 fun R => e_nf ?_
  refine e_o (by repeat (first | exact Sel.here _ _ | apply Sel.there)) fun g hok => ?_
  repeat (first | refine r_p ?_ | refine r_l ?_ | refine r_s ?_ | refine r_n fun _ => ?_ | refine r_end ?_ | refine e_r ?_ | refine e_d pl143 ?_ | refine e_j ?_ | refine e_true ?_ | refine e_false ?_ | refine r_tt ?_ | refine r_ff ?_ | refine e_tt ?_ | refine e_ff ?_)
  refine r_c (table_find b x l (g, bm) hok) ?_
  cases h : findT l x with
  | none =>
    simp only [findV, dropT, errT, h]
    repeat (first | refine r_p ?_ | refine r_l ?_ | refine r_s ?_ | refine r_n fun _ => ?_ | refine r_end ?_ | refine e_r ?_ | refine e_d pl143 ?_ | refine e_j ?_ | refine e_true ?_ | refine e_false ?_ | refine r_tt ?_ | refine r_ff ?_ | refine e_tt ?_ | refine e_ff ?_)
    refine e_ret0 ?_
    refine n_s g hok ?_
    (refine Prm.ent ?_; repeat (first | exact Prm.refl _ | (apply Prm.take; repeat (first | exact Sel.here _ _ | apply Sel.there)) | refine Prm.drop ?_))
  | some q =>
    obtain ⟨i, s⟩ := q
    obtain ⟨hx, hs, hu⟩ := findT_some h
    have hm := List.mem_of_getElem? hs
    have hlt := (List.getElem?_eq_some_iff.1 hs).1
    subst hx
    have hgen := hok.gen _ hm
    simp only [findV, dropT, errT, h]
    repeat (first | refine r_p ?_ | refine r_l ?_ | refine r_s ?_ | refine r_n fun _ => ?_ | refine r_end ?_ | refine e_r ?_ | refine e_d pl143 ?_ | refine e_j ?_ | refine e_true ?_ | refine e_false ?_ | refine r_tt ?_ | refine r_ff ?_ | refine e_tt ?_ | refine e_ff ?_)
    refine r_si ?_ ?_
    · exact flat_lt SlS.cells 6 sl6 l i 1 s hs (by decide)
    rw [flat_put SlS.cells 6 sl6 l i 1 s ⟨s.gen, false, s.e⟩ (.bool false) hs (by decide) rfl]
    have hs1 : (l.set i ⟨s.gen, false, s.e⟩)[i]? = some ⟨s.gen, false, s.e⟩ := by simp [hlt]
    repeat (first | refine r_p ?_ | refine r_l ?_ | refine r_s ?_ | refine r_n fun _ => ?_ | refine r_end ?_ | refine e_r ?_ | refine e_d pl143 ?_ | refine e_j ?_ | refine e_true ?_ | refine e_false ?_ | refine r_tt ?_ | refine r_ff ?_ | refine e_tt ?_ | refine e_ff ?_)
    refine r_sj (cs' := ((l.set i ⟨s.gen, false, en0⟩).map SlS.cells).flatten) (vs := en0.cells) ?_ ?_
    · have := flat_putS SlS.cells 6 sl6 (l.set i ⟨s.gen, false, s.e⟩) i 2 _ ⟨s.gen, false, en0⟩ en0.cells hs1 rfl
      rwa [List.set_set] at this
    have hs2 : (l.set i ⟨s.gen, false, en0⟩)[i]? = some ⟨s.gen, false, en0⟩ := by simp [hlt]
    have hr := countP_set2 (fun x : SlS => !x.used && decide (x.gen = 255)) l i s ⟨s.gen, false, en0⟩ hs
    have hle := taken_le l; have hlen := hok.len2
    repeat (first | refine r_p ?_ | refine r_l ?_ | refine r_s ?_ | refine r_n fun _ => ?_ | refine r_end ?_ | refine e_r ?_ | refine e_d pl143 ?_ | refine e_j ?_ | refine e_true ?_ | refine e_false ?_ | refine r_tt ?_ | refine r_ff ?_ | refine e_tt ?_ | refine e_ff ?_)
    refine r_li (v := it s.gen) ?_ ?_
    · exact flat_get SlS.cells 6 sl6 _ i 0 _ _ hs2 rfl
    repeat (first | refine r_p ?_ | refine r_l ?_ | refine r_s ?_ | refine r_n fun _ => ?_ | refine r_end ?_ | refine e_r ?_ | refine e_d pl143 ?_ | refine e_j ?_ | refine e_true ?_ | refine e_false ?_ | refine r_tt ?_ | refine r_ff ?_ | refine e_tt ?_ | refine e_ff ?_)
    refine e_if (fun h255 => ?_) (fun h255 => ?_)
    · repeat (first | refine r_p ?_ | refine r_l ?_ | refine r_s ?_ | refine r_n fun _ => ?_ | refine r_end ?_ | refine e_r ?_ | refine e_d pl143 ?_ | refine e_j ?_ | refine e_true ?_ | refine e_false ?_ | refine r_tt ?_ | refine r_ff ?_ | refine e_tt ?_ | refine e_ff ?_)
      refine e_ret0 ?_
      refine n_s g (hok.set i _ hgen (by intro h; cases h)) ?_
      have e1 : retired (l.set i ⟨s.gen, false, en0⟩) = retired l + 1 := by
        simp [hu, show s.gen = 255 by omega] at hr
        simpa [retired, show s.gen = 255 by omega] using hr
      have e2 : (l.set i ⟨s.gen, false, en0⟩).map SlS.taken = l.map SlS.taken := by
        rw [List.map_set]
        exact set_at_same _ _ _ (by rw [List.getElem?_map, hs]; simp [SlS.taken, hu, show s.gen = 255 by omega])
      rw [e1, e2, List.length_set]
      (refine Prm.ent ?_; repeat (first | exact Prm.refl _ | (apply Prm.take; repeat (first | exact Sel.here _ _ | apply Sel.there)) | refine Prm.drop ?_))
    · repeat (first | refine r_p ?_ | refine r_l ?_ | refine r_s ?_ | refine r_n fun _ => ?_ | refine r_end ?_ | refine e_r ?_ | refine e_d pl143 ?_ | refine e_j ?_ | refine e_true ?_ | refine e_false ?_ | refine r_tt ?_ | refine r_ff ?_ | refine e_tt ?_ | refine e_ff ?_)
      refine r_c (bitmap_Set bm i (l.map SlS.taken) false (by simpa using hlt)) ?_
      repeat (first | refine r_p ?_ | refine r_l ?_ | refine r_s ?_ | refine r_n fun _ => ?_ | refine r_end ?_ | refine e_r ?_ | refine e_d pl143 ?_ | refine e_j ?_ | refine e_true ?_ | refine e_false ?_ | refine r_tt ?_ | refine r_ff ?_ | refine e_tt ?_ | refine e_ff ?_)
      refine e_ret0 ?_
      refine n_s g (hok.set i _ hgen (by intro h; cases h)) ?_
      have e1 : retired (l.set i ⟨s.gen, false, en0⟩) = retired l := by
        simp [hu, show s.gen ≠ 255 by omega] at hr
        simpa [retired] using hr
      have e2 : (l.set i ⟨s.gen, false, en0⟩).map SlS.taken = (l.map SlS.taken).set i false := by
        rw [List.map_set]; simp [SlS.taken, show s.gen ≠ 255 by omega]
      rw [e1, e2, List.length_set]
      (refine Prm.ent ?_; repeat (first | exact Prm.refl _ | (apply Prm.take; repeat (first | exact Sel.here _ _ | apply Sel.there)) | refine Prm.drop ?_))
/-- the first slot that is neither used nor retired -/
def freeT (l : List SlS) : Option Nat := (List.range l.length).find? fun i => !(l.map SlS.taken).getD i false
def addT (l : List SlS) (e : EnS) : List SlS := match freeT l with
  | some i => l.set i ⟨(l.getD i slot0).gen + 1, true, e⟩
  | none => l
def addV (l : List SlS) : Value := match freeT l with
  | some i => .tuple #[it2 (i, ((l.getD i slot0).gen + 1 : Nat)), it 0]
  | none => .tuple #[it2 (0, 0), it 12]
theorem freeT_nx {l : List SlS} {r : Nat} (h : IsNx (l.map SlS.taken) false 0 r) : freeT l = if r < l.length then some r else none := by
  have hle := h.le
  rw [List.length_map] at hle
  unfold freeT
  split
  · rename_i hr
    rw [List.find?_range_eq_some]
    refine ⟨by have := h.yes (by simpa using hr); rw [this]; rfl, List.mem_range.2 hr, fun j hj => ?_⟩
    have := h.no j (Nat.zero_le _) hj
    simp only [this]; rfl
  · rw [List.find?_range_eq_none]
    intro j hj
    have := h.no j (Nat.zero_le _) (by omega)
    simp only [this]; rfl
theorem table_Add (b bm : Nat) (e : EnS) (l : List SlS) : Ct Tryz.prog 130 [ptr b, enV e] [tbR b bm l] (det (addV l) [tbR b bm (addT l e)]) := by
  refine ct_intro Tryz.func130 rfl Tryz.ntmps130 Tryz.results130 fun R => e_nf ?_
  refine e_o (by repeat (first | exact Sel.here _ _ | apply Sel.there)) fun g hok => ?_
  repeat (first | refine r_p ?_ | refine r_l ?_ | refine r_s ?_ | refine r_n fun _ => ?_ | refine r_end ?_ | refine e_r ?_ | refine e_d pl130 ?_ | refine e_j ?_ | refine e_true ?_ | refine e_false ?_ | refine r_tt ?_ | refine r_ff ?_ | refine e_tt ?_ | refine e_ff ?_)
  refine r_x (bitmap_First bm 0 (l.map SlS.taken) (Nat.zero_le _)) fun r hr => ?_
  have hfr := freeT_nx hr
  have hlen := hok.len2
  by_cases hlt : r < l.length
  · rw [if_pos hlt] at hfr
    have hs : l[r]? = some l[r] := List.getElem?_eq_getElem hlt
    have hm := List.mem_of_getElem? hs
    have hnt : l[r].taken = false := by
      have := hr.yes (by simpa using hlt)
      simpa [hlt] using this
    have hnu : l[r].used = false := by
      cases hu : l[r].used with
      | false => rfl
      | true => simp [SlS.taken, hu] at hnt
    have hn255 : l[r].gen ≠ 255 := by
      intro h; simp [SlS.taken, h] at hnt
    have hgen := hok.gen _ hm
    simp only [fst1, List.length_map, if_pos hlt]
    repeat (first | refine r_p ?_ | refine r_l ?_ | refine r_s ?_ | refine r_n fun _ => ?_ | refine r_end ?_ | refine e_r ?_ | refine e_d pl130 ?_ | refine e_j ?_ | refine e_true ?_ | refine e_false ?_ | refine r_tt ?_ | refine r_ff ?_ | refine e_tt ?_ | refine e_ff ?_)
    refine r_c (bitmap_Set bm r (l.map SlS.taken) true (by simpa using hlt)) ?_
    repeat (first | refine r_p ?_ | refine r_l ?_ | refine r_s ?_ | refine r_n fun _ => ?_ | refine r_end ?_ | refine e_r ?_ | refine e_d pl130 ?_ | refine e_j ?_ | refine e_true ?_ | refine e_false ?_ | refine r_tt ?_ | refine r_ff ?_ | refine e_tt ?_ | refine e_ff ?_)
    refine r_li (v := it l[r].gen) ?_ ?_
    · exact flat_get SlS.cells 6 sl6 _ r 0 _ _ hs rfl
    repeat (first | refine r_p ?_ | refine r_l ?_ | refine r_s ?_ | refine r_n fun _ => ?_ | refine r_end ?_ | refine e_r ?_ | refine e_d pl130 ?_ | refine e_j ?_ | refine e_true ?_ | refine e_false ?_ | refine r_tt ?_ | refine r_ff ?_ | refine e_tt ?_ | refine e_ff ?_)
    refine r_si ?_ ?_
    · exact flat_lt SlS.cells 6 sl6 l r 0 _ hs (by decide)
    rw [flat_put SlS.cells 6 sl6 l r 0 _ ⟨l[r].gen + 1, l[r].used, l[r].e⟩ _ hs (by decide) (by simp [SlS.cells])]
    have hs1 : (l.set r ⟨l[r].gen + 1, l[r].used, l[r].e⟩)[r]? = some ⟨l[r].gen + 1, l[r].used, l[r].e⟩ := by simp [hlt]
    repeat (first | refine r_p ?_ | refine r_l ?_ | refine r_s ?_ | refine r_n fun _ => ?_ | refine r_end ?_ | refine e_r ?_ | refine e_d pl130 ?_ | refine e_j ?_ | refine e_true ?_ | refine e_false ?_ | refine r_tt ?_ | refine r_ff ?_ | refine e_tt ?_ | refine e_ff ?_)
    refine r_spi ?_ ?_
    · exact flat_lt SlS.cells 6 sl6 _ r 1 _ hs1 (by decide)
    rw [flat_put SlS.cells 6 sl6 _ r 1 _ ⟨l[r].gen + 1, true, l[r].e⟩ (.bool true) hs1 (by decide) rfl, List.set_set]
    have hs2 : (l.set r ⟨l[r].gen + 1, true, l[r].e⟩)[r]? = some ⟨l[r].gen + 1, true, l[r].e⟩ := by simp [hlt]
    repeat (first | refine r_p ?_ | refine r_l ?_ | refine r_s ?_ | refine r_n fun _ => ?_ | refine r_end ?_ | refine e_r ?_ | refine e_d pl130 ?_ | refine e_j ?_ | refine e_true ?_ | refine e_false ?_ | refine r_tt ?_ | refine r_ff ?_ | refine e_tt ?_ | refine e_ff ?_)
    refine r_sj (cs' := ((l.set r ⟨l[r].gen + 1, true, e⟩).map SlS.cells).flatten) (vs := e.cells) ?_ ?_
    · have := flat_putS SlS.cells 6 sl6 _ r 2 _ ⟨l[r].gen + 1, true, e⟩ e.cells hs2 rfl
      rwa [List.set_set] at this
    have hs3 : (l.set r ⟨l[r].gen + 1, true, e⟩)[r]? = some ⟨l[r].gen + 1, true, e⟩ := by simp [hlt]
    repeat (first | refine r_p ?_ | refine r_l ?_ | refine r_s ?_ | refine r_n fun _ => ?_ | refine r_end ?_ | refine e_r ?_ | refine e_d pl130 ?_ | refine e_j ?_ | refine e_true ?_ | refine e_false ?_ | refine r_tt ?_ | refine r_ff ?_ | refine e_tt ?_ | refine e_ff ?_)
    refine r_li (v := it ((l[r].gen + 1 : Nat) : Int)) ?_ ?_
    · exact flat_get SlS.cells 6 sl6 _ r 0 _ _ hs3 rfl
    repeat (first | refine r_p ?_ | refine r_l ?_ | refine r_s ?_ | refine r_n fun _ => ?_ | refine r_end ?_ | refine e_r ?_ | refine e_d pl130 ?_ | refine e_j ?_ | refine e_true ?_ | refine e_false ?_ | refine r_tt ?_ | refine r_ff ?_ | refine e_tt ?_ | refine e_ff ?_)
    have hgd : l.getD r slot0 = l[r] := by simp [hlt]
    simp only [addV, addT, hfr, hgd]
    refine e_ret0 ?_
    refine n_s g (hok.set r _ (show l[r].gen + 1 ≤ 255 by omega) (fun _ => by simp)) ?_
    have hrt := countP_set2 (fun x : SlS => !x.used && decide (x.gen = 255)) l r l[r] ⟨l[r].gen + 1, true, e⟩ hs
    have e1 : retired (l.set r ⟨l[r].gen + 1, true, e⟩) = retired l := by
      simp [hn255] at hrt
      simpa [retired] using hrt
    have e2 : (l.set r ⟨l[r].gen + 1, true, e⟩).map SlS.taken = (l.map SlS.taken).set r true := by
      rw [List.map_set]; simp [SlS.taken]
    rw [e1, e2, List.length_set]
    (refine Prm.ent ?_; repeat (first | exact Prm.refl _ | (apply Prm.take; repeat (first | exact Sel.here _ _ | apply Sel.there)) | refine Prm.drop ?_))
  · rw [if_neg hlt] at hfr
    simp only [fst1, List.length_map, if_neg hlt]
    repeat (first | refine r_p ?_ | refine r_l ?_ | refine r_s ?_ | refine r_n fun _ => ?_ | refine r_end ?_ | refine e_r ?_ | refine e_d pl130 ?_ | refine e_j ?_ | refine e_true ?_ | refine e_false ?_ | refine r_tt ?_ | refine r_ff ?_ | refine e_tt ?_ | refine e_ff ?_)
    simp only [addV, addT, hfr]
    refine e_ret0 ?_
    refine n_s g hok ?_
    (refine Prm.ent ?_; repeat (first | exact Prm.refl _ | (apply Prm.take; repeat (first | exact Sel.here _ _ | apply Sel.there)) | refine Prm.drop ?_))
