/- Slices: a slice that owns its array (also nil); appending, making, copying, clearing, cutting. -/
import Derived.Test.YtnignhaamlmelaaGreatDoorSl7
import Derived.Deep.AppendSrc
import Derived.Lib.AppendZerosOnto
namespace Go.Sl
open Go

/-- what is known of a slice: it has no room at all (nil, mostly), or a block, what lies ahead of it, its capacity, and what lies behind the length; z: nothing lies ahead -/
def SlOk (z : Bool) (s len : Nat) (v : Value) (vs : List Value) : Option (Nat × List Value × Nat × List Value) → Prop
  | none => (∃ a, v = .slice a 0 0) ∧ vs = [] ∧ len = 0
  | some (b, pre, cap, rest) => v = .slice (some ⟨b, pre.length, none⟩) len cap ∧ vs.length = len * s ∧ cap * s ≤ vs.length + rest.length ∧ len ≤ cap ∧ (z = true → pre = [])
def slL (t : TypeId) (vs : List Value) : Option (Nat × List Value × Nat × List Value) → List SP
  | none => []
  | some (b, pre, _, rest) => [cl b (pre ++ (vs ++ rest)) t]
/-- a slice of len elements of type t, s cells each, that owns its array -/
def slZ (z : Bool) (t : TypeId) (s len : Nat) (v : Value) (vs : List Value) : SP := rep (SlOk z s len v vs) (slL t vs)
/-- one that begins where its array begins; one that may begin anywhere -/
abbrev slR := slZ true
abbrev slQ := slZ false

theorem slz_open {z : Bool} {t : TypeId} {s len : Nat} {v : Value} {vs : List Value} {R : List SP} {h : Hp} (hS : Sat (slZ z t s len v vs :: R) h) :
    ((∃ a, v = .slice a 0 0) ∧ vs = [] ∧ len = 0 ∧ Sat R h) ∨ ∃ b pre cap rest, v = .slice (some ⟨b, pre.length, none⟩) len cap ∧ vs.length = len * s ∧ cap * s ≤ vs.length + rest.length ∧ len ≤ cap ∧ (z = true → pre = []) ∧ Sat (cl b (pre ++ (vs ++ rest)) t :: R) h := by
  obtain ⟨g, hg, hs⟩ := rep_open h hS
  cases g with
  | none => exact .inl ⟨hg.1, hg.2.1, hg.2.2, hs⟩
  | some g => obtain ⟨b, pre, cap, rest⟩ := g; exact .inr ⟨b, pre, cap, rest, hg.1, hg.2.1, hg.2.2.1, hg.2.2.2.1, hg.2.2.2.2, hs⟩
theorem sl_open {t : TypeId} {s len : Nat} {v : Value} {vs : List Value} {R : List SP} {h : Hp} (hS : Sat (slR t s len v vs :: R) h) :
    ((∃ a, v = .slice a 0 0) ∧ vs = [] ∧ len = 0 ∧ Sat R h) ∨ ∃ b cap rest, v = .slice (some ⟨b, 0, none⟩) len cap ∧ vs.length = len * s ∧ cap * s ≤ vs.length + rest.length ∧ len ≤ cap ∧ Sat (cl b (vs ++ rest) t :: R) h := by
  rcases slz_open hS with h | ⟨b, pre, cap, rest, e1, e2, e3, e4, e5, s⟩
  · exact .inl h
  · have := e5 rfl
    subst this
    exact .inr ⟨b, cap, rest, e1, e2, e3, e4, s⟩
theorem slz_shut {z : Bool} {t : TypeId} {s len cap b : Nat} {pre vs rest : List Value} {R : List SP} (h1 : vs.length = len * s) (h2 : cap * s ≤ vs.length + rest.length) (h3 : len ≤ cap) (h4 : z = true → pre = []) :
    Ent (cl b (pre ++ (vs ++ rest)) t :: R) (slZ z t s len (.slice (some ⟨b, pre.length, none⟩) len cap) vs :: R) :=
  rep_shut (φ := SlOk z s len (.slice (some ⟨b, pre.length, none⟩) len cap) vs) (L := slL t vs) (some (b, pre, cap, rest)) ⟨rfl, h1, h2, h3, h4⟩
theorem sl_shut {z : Bool} {t : TypeId} {s len cap b : Nat} {vs rest : List Value} {R : List SP} (h1 : vs.length = len * s) (h2 : cap * s ≤ vs.length + rest.length) (h3 : len ≤ cap) : Ent (cl b (vs ++ rest) t :: R) (slZ z t s len (.slice (some ⟨b, 0, none⟩) len cap) vs :: R) :=
  slz_shut (pre := []) h1 h2 h3 (fun _ => rfl)
theorem sl_nil {z : Bool} {t : TypeId} {s : Nat} {a : Option Addr} {R : List SP} : Ent R (slZ z t s 0 (.slice a 0 0) [] :: R) :=
  rep_shut (φ := SlOk z s 0 (.slice a 0 0) []) (L := slL t []) none ⟨⟨a, rfl⟩, rfl, rfl⟩
/-- a block that is all of a slice -/
theorem sl_of {z : Bool} {t : TypeId} {s len b : Nat} {vs : List Value} {R : List SP} (h1 : vs.length = len * s) : Ent (cl b vs t :: R) (slZ z t s len (.slice (some ⟨b, 0, none⟩) len len) vs :: R) := by
  have := sl_shut (z := z) (t := t) (s := s) (len := len) (cap := len) (b := b) (rest := []) (R := R) h1 (by simp [h1]) (Nat.le_refl _)
  simpa using this

section
variable {P : Program} {r : Option Nat} {ops : Array Oper} {K : Ko} {p p' : Plan} {n : Nat} {m m' : List (Nat × Value)} {ds : List Deferred} {H R : List SP} {e : Env}

theorem r_so {t : TypeId} {s len : Nat} {v : Value} {vs : List Value} (hs : Sel H (slR t s len v vs) R) (h0 : ∀ a, v = .slice a 0 0 → vs = [] → len = 0 → Run P r ops K p e R)
    (h1 : ∀ b cap rest, v = .slice (some ⟨b, 0, none⟩) len cap → vs.length = len * s → cap * s ≤ vs.length + rest.length → len ≤ cap → Run P r ops K p e (cl b (vs ++ rest) t :: R)) : Run P r ops K p e H := fun a w ha hS => by
  rcases sl_open (hs.ent _ hS) with ⟨⟨x, e1⟩, e2, e3, s⟩ | ⟨b, cap, rest, e1, e2, e3, e4, s⟩
  · exact h0 x e1 e2 e3 a w ha s
  · exact h1 b cap rest e1 e2 e3 e4 a w ha s
theorem e_so {c : Code} {t : TypeId} {s len : Nat} {v : Value} {vs : List Value} (hs : Sel H (slR t s len v vs) R) (h0 : ∀ a, v = .slice a 0 0 → vs = [] → len = 0 → Ex P r c K e R)
    (h1 : ∀ b cap rest, v = .slice (some ⟨b, 0, none⟩) len cap → vs.length = len * s → cap * s ≤ vs.length + rest.length → len ≤ cap → Ex P r c K e (cl b (vs ++ rest) t :: R)) : Ex P r c K e H := fun a w ha hS => by
  rcases sl_open (hs.ent _ hS) with ⟨⟨x, e1⟩, e2, e3, s⟩ | ⟨b, cap, rest, e1, e2, e3, e4, s⟩
  · exact h0 x e1 e2 e3 a w ha s
  · exact h1 b cap rest e1 e2 e3 e4 a w ha s
/-- one that isn't empty has a block -/
theorem r_sp {t : TypeId} {s len : Nat} {v : Value} {vs : List Value} (hs : Sel H (slR t s len v vs) R) (hl : 0 < len)
    (h1 : ∀ b cap rest, v = .slice (some ⟨b, 0, none⟩) len cap → vs.length = len * s → cap * s ≤ vs.length + rest.length → len ≤ cap → Run P r ops K p e (cl b (vs ++ rest) t :: R)) : Run P r ops K p e H :=
  r_so hs (fun _ _ _ e => by omega) h1
theorem e_sp {c : Code} {t : TypeId} {s len : Nat} {v : Value} {vs : List Value} (hs : Sel H (slR t s len v vs) R) (hl : 0 < len)
    (h1 : ∀ b cap rest, v = .slice (some ⟨b, 0, none⟩) len cap → vs.length = len * s → cap * s ≤ vs.length + rest.length → len ≤ cap → Ex P r c K e (cl b (vs ++ rest) t :: R)) : Ex P r c K e H :=
  e_so hs (fun _ _ _ e => by omega) h1
/-- the length and the capacity alone -/
theorem r_sv' {z : Bool} {t : TypeId} {s len : Nat} {v : Value} {vs : List Value} (hs : Sel H (slZ z t s len v vs) R)
    (q : ∀ a cap, v = .slice a len cap → vs.length = len * s → len ≤ cap → Run P r ops K p e H) : Run P r ops K p e H := fun a w ha hS => by
  rcases slz_open (hs.ent _ hS) with ⟨⟨x, e1⟩, e2, e3, s⟩ | ⟨b, pre, cap, rest, e1, e2, e3, e4, e5, s⟩
  · subst e3; exact q x 0 e1 (by simp [e2]) (Nat.le_refl _) a w ha hS
  · exact q _ cap e1 e2 e4 a w ha hS
theorem e_sv' {z : Bool} {c : Code} {t : TypeId} {s len : Nat} {v : Value} {vs : List Value} (hs : Sel H (slZ z t s len v vs) R)
    (q : ∀ a cap, v = .slice a len cap → vs.length = len * s → len ≤ cap → Ex P r c K e H) : Ex P r c K e H := fun a w ha hS => by
  rcases slz_open (hs.ent _ hS) with ⟨⟨x, e1⟩, e2, e3, s⟩ | ⟨b, pre, cap, rest, e1, e2, e3, e4, e5, s⟩
  · subst e3; exact q x 0 e1 (by simp [e2]) (Nat.le_refl _) a w ha hS
  · exact q _ cap e1 e2 e4 a w ha hS

/-! ### Appending -/
/-- the first cells of a slice are these -/
def Fst (vy : Value) (k : Nat) (ys : List Value) (H : List SP) : Prop := ∀ w : World, Sat H (heapOf w) → ((∃ a, vy = .slice a 0 0) ∧ k = 0 ∧ ys = []) ∨
  ∃ b o c, vy = .slice (some ⟨b, o, none⟩) k c ∧ ∀ (j : Nat) (u : Value), ys[j]? = some u → w.cell? ⟨b, o + j, none⟩ = some u
theorem fst_at {b k c : Nat} {pre ys zs : List Value} {et : TypeId} (hb : Tk H b (pre ++ (ys ++ zs)) et R) : Fst (.slice (some ⟨b, pre.length, none⟩) k c) k ys H := fun w hs => .inr ⟨b, _, c, rfl, fun j u hj => by
  rw [cell_of (hb.get hs), List.getElem?_append_right (by omega), show pre.length + j - pre.length = j by omega]
  rw [List.getElem?_append_left (List.getElem?_eq_some_iff.1 hj).1]; exact hj⟩
theorem fst_cl {b k c : Nat} {ys zs : List Value} {et : TypeId} (hb : Tk H b (ys ++ zs) et R) : Fst (.slice (some ⟨b, 0, none⟩) k c) k ys H := fst_at (pre := []) hb
theorem fst_cl0 {b k c : Nat} {ys : List Value} {et : TypeId} (hb : Tk H b ys et R) : Fst (.slice (some ⟨b, 0, none⟩) k c) k ys H := fst_cl (zs := []) (by simpa using hb)
theorem fst_sl {z : Bool} {t : TypeId} {s k : Nat} {vy : Value} {ys : List Value} (hs : Sel H (slZ z t s k vy ys) R) : Fst vy k ys H := fun w hS => by
  rcases slz_open (hs.ent _ hS) with ⟨e1, e2, e3, s⟩ | ⟨b, pre, cap, rest, e1, e2, e3, e4, e5, s⟩
  · exact .inl ⟨e1, e3, e2⟩
  · refine .inr ⟨b, pre.length, cap, e1, fun j u hj => ?_⟩
    have := Sat.pt_get s
    rw [show w.cell? ⟨b, pre.length + j, none⟩ = (pre ++ (ys ++ rest))[pre.length + j]? from cell_of this, List.getElem?_append_right (by omega), show pre.length + j - pre.length = j by omega, List.getElem?_append_left (List.getElem?_eq_some_iff.1 hj).1]; exact hj
theorem fst_none {H : List SP} : Fst (.slice none 0 0) 0 [] H := fun _ _ => .inl ⟨⟨_, rfl⟩, rfl, rfl⟩

theorem x_setCells (b : Nat) : ∀ (news : List Value) (off : Nat) (w : World), (heapOf (w.setCells b off news)).x = (heapOf w).x
  | [], _, _ => rfl
  | v :: news, off, w => (x_setCells b news (off + 1) (w.setCell ⟨b, off, none⟩ v)).trans rfl
theorem heapOf_setCells (b : Nat) (et : TypeId) : ∀ (news : List Value) (off : Nat) (w : World) (cs : List Value), w.heap[b]? = some (.cells cs.toArray et (0, 0)) → off + news.length ≤ cs.length →
    heapOf (w.setCells b off news) b = some (.cells (cs.take off ++ news ++ cs.drop (off + news.length)).toArray et (0, 0)) ∧ ∀ x, x ≠ b → heapOf (w.setCells b off news) x = heapOf w x
  | [], off, w, cs, h, _ => by simpa [World.setCells, heapOf] using h
  | v :: news, off, w, cs, h, hl => by
    simp only [List.length_cons] at hl
    have hset := heapOf_setCell (w := w) (i := off) (v := v) h
    have ih := heapOf_setCells b et news (off + 1) (w.setCell ⟨b, off, none⟩ v) (cs.set off v) hset.1 (by simp; omega)
    have hlt : off < cs.length := by omega
    refine ⟨?_, fun x hx => (ih.2 x hx).trans (hset.2 x hx)⟩
    rw [show w.setCells b off (v :: news) = (w.setCell ⟨b, off, none⟩ v).setCells b (off + 1) news from rfl, ih.1]
    have e1 : (cs.set off v).take (off + 1) = cs.take off ++ [v] := by
      have hl : (cs.take off).length = off := by simp; omega
      rw [List.set_eq_take_append_cons_drop, if_pos hlt, List.take_append, hl, show off + 1 - off = 1 by omega]
      rw [List.take_of_length_le (by omega)]
      simp
    have e2 : (cs.set off v).drop (off + 1 + news.length) = cs.drop (off + (news.length + 1)) := by
      rw [List.drop_set, if_pos (by omega), show off + 1 + news.length = off + (news.length + 1) by omega]
    rw [e1, e2]; simp

theorem zeroCells_len (z : Array Value) (n : Nat) : (Builtin.zeroCells z n).toList.length = n * z.size := by simp [Builtin.zeroCells]

theorem src_of {t el : TypeId} {s bz k : Nat} {z : List Value} {vy : Value} {ys : List Value} (hT : TSlice P t el s bz z) (hF : Fst vy k ys H) (hk : ys.length = k * s) (h1 : ∀ u ∈ ys, oneCell u = true) (w : World) (hS : Sat H (heapOf w)) : Src P s t vy k ys w := by
  have one : ∀ u ∈ ys, u.oneCell' = true := fun u hu => by
    have := h1 u hu
    cases u <;> simp_all [oneCell, Value.oneCell']
  rcases hF w hS with ⟨⟨a, rfl⟩, rfl, rfl⟩ | ⟨b, o, c, rfl, hys⟩
  · cases a with
    | none => exact Src.ofNil w hT.out 0
    | some a => exact Src.ofSlice w hT.out a 0 0 [] (by simp) (fun j u h => by simp at h) (fun u h => by cases h)
  · exact Src.ofSlice w hT.out ⟨b, o, none⟩ k c ys hk (fun j u hj => by rw [add_mk]; exact hys j u hj) one

/-- no room: a new block -/
theorem run_grow {y : Bool} {t el : TypeId} {s bz len cap k : Nat} {z : List Value} {ty : TypeId} {base : Option Addr} {vy : Value} {vs ys : List Value} {w : World} (hT : TSlice P t el s bz z) (hsrc : Src P s t vy k ys w) (hd : ((∃ a, base = a) ∧ len = 0 ∧ vs = []) ∨ ∃ b o, base = some ⟨b, o, none⟩ ∧ ∀ (j : Nat) (u : Value), vs[j]? = some u → w.cell? ⟨b, o + j, none⟩ = some u)
    (hl : vs.length = len * s) (hg : cap < len + k) (hlc : len ≤ cap) (hb : (len + k) * bz ≤ 140737488355328) (h63 : len + k ≤ 9223372036854775807) (hS : Sat H (heapOf w)) :
    ∃ v' w', (Builtin.append_ #[t, t] ty #[.slice base len cap, vy]).run P w = .ok v' w' ∧ Sat (slZ y el s (len + k) v' (vs ++ ys) :: H) (heapOf w') := by
  obtain ⟨ii, zv, g1, g3, g4, g2, g5⟩ := hT.info
  have hzs : z.length = s := hT.len
  subst g2 g5
  have hold : (Builtin.firstCells ii.size len (.slice base len cap)).run P w.drew = .ok vs.toArray w.drew := by
    rcases hd with ⟨_, rfl, rfl⟩ | ⟨b, o, rfl, hr⟩
    · cases base with
      | none => exact run_firstCells_none w.drew ii.size 0 0 cap
      | some a => exact run_firstCells_some w.drew ii.size 0 a 0 cap [] (by simp) (fun j u h => by simp at h)
    · exact run_firstCells_some w.drew ii.size len ⟨b, o, none⟩ len cap vs hl (fun j u hj => by rw [add_mk]; exact hr j u hj)
  have hr := run_append_grow_src w t t ty el ii zv hT.out g1 g3 base len cap vs hold vy k ys hsrc hg (by omega) (growslice_fits (by omega) hb)
  refine ⟨_, _, hr, ?_⟩
  have hge := grownCap_ge w (len + k) cap el
  have hA := sat_alloc (w := w.drew) (o := .cells ((vs ++ ys).toArray ++ Builtin.zeroCells zv.cells (grownCap w (len + k) cap el - (len + k))) el (0, 0)) (show Sat H (heapOf w.drew) from hS)
  have e0 : ((vs ++ ys).toArray ++ Builtin.zeroCells zv.cells (grownCap w (len + k) cap el - (len + k))) = (vs ++ ys ++ (Builtin.zeroCells zv.cells (grownCap w (len + k) cap el - (len + k))).toList).toArray := by simp
  rw [e0] at hA
  have hlen : (vs ++ ys).length = (len + k) * ii.size := by rw [List.length_append, hl, hsrc.newsLen, Nat.add_mul]
  have := sl_shut (z := y) (t := el) (s := ii.size) (len := len + k) (cap := grownCap w (len + k) cap el) (b := w.drew.heap.size) (vs := vs ++ ys) (rest := (Builtin.zeroCells zv.cells (grownCap w (len + k) cap el - (len + k))).toList) (R := H)
    hlen (by rw [hlen, zeroCells_len, g4]; simp only [List.size_toArray, hzs]; rw [← Nat.add_mul]; exact Nat.mul_le_mul_right _ (by omega)) hge _ hA
  rw [e0]
  simpa using this

theorem run_app {y : Bool} {t el : TypeId} {s bz len k : Nat} {z : List Value} {ty : TypeId} {v vy : Value} {vs ys : List Value} (hT : TSlice P t el s bz z) (hF : Fst vy k ys H) (hs : Sel H (slZ y el s len v vs) R) (hk : ys.length = k * s) (h1 : ∀ u ∈ ys, oneCell u = true)
    (hb : (len + k) * bz ≤ 140737488355328) (h63 : len + k ≤ 9223372036854775807) (w : World) (hS : Sat H (heapOf w)) :
    ∃ v' w', (Builtin.append_ #[t, t] ty #[v, vy]).run P w = .ok v' w' ∧ Sat (slZ y el s (len + k) v' (vs ++ ys) :: R) (heapOf w') := by
  have hsrc := src_of hT hF hk h1 w hS
  obtain ⟨ii, zv, g1, g3, g4, g2, g5⟩ := id hT.info
  have hzs : z.length = s := hT.len
  rcases slz_open (hs.ent _ hS) with ⟨⟨a, rfl⟩, rfl, rfl, s'⟩ | ⟨b, pre, cap, rest, rfl, e2, e3, e4, e5, s'⟩
  · rcases Nat.eq_zero_or_pos k with rfl | hkp
    · have : ys = [] := List.length_eq_zero_iff.1 (by simpa using hk)
      subst this
      have hc := hsrc.cells
      have hlen := hsrc.len w
      refine ⟨.slice a 0 0, w, ?_, sl_nil _ s'⟩
      subst g2
      cases a <;> simp [Builtin.append_, run_underlying hT.out, sizeOf, typeInfo, g1, hsrc.len, hc, storeCells]
    · exact run_grow hT hsrc (.inl ⟨⟨a, rfl⟩, rfl, rfl⟩) (by simp) (by omega) (Nat.le_refl _) hb h63 s'
  · have hblk : w.heap[b]? = some (.cells (pre ++ (vs ++ rest)).toArray el (0, 0)) := Sat.pt_get s'
    by_cases hroom : len + k ≤ cap
    · have hfit : len * s + ys.length ≤ (vs ++ rest).length := by
        rw [hk, List.length_append, ← Nat.add_mul]
        exact Nat.le_trans (Nat.mul_le_mul_right _ hroom) e3
      subst g2
      have hr := run_append_room_src w t t ty el ii hT.out g1 b pre.length len cap vy k ys hsrc hroom
          (fun j hj => by
            rw [cell_of hblk, List.getElem?_eq_getElem (by rw [List.length_append]; omega)]; rfl)
          (fun j hj => frozen_of hblk)
      refine ⟨_, _, hr, ?_⟩
      have hset := heapOf_setCells b el ys (pre.length + len * ii.size) w (pre ++ (vs ++ rest)) hblk (by rw [List.length_append]; omega)
      have e5' : (pre ++ (vs ++ rest)).take (pre.length + len * ii.size) = pre ++ vs := by
        rw [List.take_append, List.take_of_length_le (by omega), show pre.length + len * ii.size - pre.length = vs.length by omega]; simp
      have e6 : (pre ++ (vs ++ rest)).drop (pre.length + len * ii.size + ys.length) = rest.drop ys.length := by
        rw [List.drop_append, List.drop_eq_nil_of_le (by omega), List.drop_append, List.drop_eq_nil_of_le (by omega)]
        simp only [List.nil_append]; congr 1; omega
      rw [e5', e6] at hset
      have h2 := Sat.pt_set s' hset.1 hset.2 (x_setCells _ _ _ _)
      have h3 := slz_shut (z := y) (t := el) (s := ii.size) (len := len + k) (b := b) (cap := cap) (pre := pre) (vs := vs ++ ys) (rest := rest.drop ys.length) (R := R) (by rw [List.length_append, e2, hk, Nat.add_mul])
        (by rw [List.length_append, List.length_drop]; rw [List.length_append] at hfit; omega) hroom e5
      refine h3 _ ?_
      simpa [cl] using h2
    · exact run_grow hT hsrc (.inr ⟨b, pre.length, rfl, fun j u hj => by
        rw [cell_of hblk, List.getElem?_append_right (by omega), show pre.length + j - pre.length = j by omega, List.getElem?_append_left (List.getElem?_eq_some_iff.1 hj).1]; exact hj⟩) e2 (by omega) e4 hb h63 (Sat.tail s')

/-- Appending: the slice in H is v (s cells each); what is appended is read from H too, and stays. -/
theorem r_app [T : Ty P] {z0 : Bool} {d k : Nat} {x y : Operand} {t el : TypeId} {s bz len kk : Nat} {z : List Value} {a1 : Value} {a2 : List Value} {a3 a4 : Nat} {v vy : Value} {vs ys : List Value}
    (hs : Sel H (slZ z0 el s len v vs) R) (hF : Fst vy kk ys H)
    (q : ∀ v', Run P r ops K p' ⟨n, (d, v') :: m, ds⟩ (slZ z0 el s (len + kk) v' (vs ++ ys) :: R))
    (h : stepM ops p n m = some (some d, .call ⟨.builtin .append, #[x, y], #[t, t]⟩, k, p') := by rfl) (hx : Env.ev ⟨n, m, []⟩ x = some v := by rfl) (hy : Env.ev ⟨n, m, []⟩ y = some vy := by rfl)
    (hi : tget T.tab t = some ⟨.slice el s bz z, a1, a2, a3, a4⟩ := by rfl)
    (hk : ys.length = kk * s := by first | rfl | assumption | omega) (h1 : ∀ u ∈ ys, oneCell u = true := by first | exact allOne_spec _ rfl | assumption) (hb : (len + kk) * bz ≤ 140737488355328 ∧ len + kk ≤ 9223372036854775807 := by omega)
    (hkk : Nat.ble 2 k = true := by rfl) : Run P r ops K p ⟨n, m, ds⟩ H := by
  rw [ev_ds (ds := ds)] at hx hy
  have hT := (ty_get hi).2.2.1
  exact act_of (N := fun v' H' => H' = slZ z0 el s (len + kk) v' (vs ++ ys) :: R) h hkk (fun o ho => ef_of (by simp [ho]) fun c w ha hS => by
      obtain ⟨v', w', e1, e2⟩ := run_app (ty := o.type) hT hF hs hk h1 hb.1 hb.2 w hS
      refine ⟨v', w', _, .inl ?_, rfl, e2⟩
      simp [execOp, ho, resolve, invoke, builtin, ha.ev hx, ha.ev hy, e1]) fun v' H' e => by subst e; exact q v'

/-- Appending where there is no room: the slice may lie anywhere, and stays; the new one is owned -/
theorem r_apg [T : Ty P] {d k : Nat} {x y : Operand} {t el : TypeId} {s bz len cap kk : Nat} {z : List Value} {a1 : Value} {a2 : List Value} {a3 a4 : Nat} {base : Option Addr} {vy : Value} {vs ys : List Value}
    (hD : Fst (.slice base len cap) len vs H) (hF : Fst vy kk ys H) (hg : cap < len + kk) (hlc : len ≤ cap)
    (q : ∀ v', Run P r ops K p' ⟨n, (d, v') :: m, ds⟩ (slR el s (len + kk) v' (vs ++ ys) :: H))
    (h : stepM ops p n m = some (some d, .call ⟨.builtin .append, #[x, y], #[t, t]⟩, k, p') := by rfl) (hx : Env.ev ⟨n, m, []⟩ x = some (.slice base len cap) := by rfl) (hy : Env.ev ⟨n, m, []⟩ y = some vy := by rfl)
    (hi : tget T.tab t = some ⟨.slice el s bz z, a1, a2, a3, a4⟩ := by rfl)
    (hl : vs.length = len * s := by first | rfl | assumption | omega) (hk : ys.length = kk * s := by first | rfl | assumption | omega) (h1 : ∀ u ∈ ys, oneCell u = true := by first | exact allOne_spec _ rfl | assumption) (hb : (len + kk) * bz ≤ 140737488355328 ∧ len + kk ≤ 9223372036854775807 := by omega)
    (hkk : Nat.ble 2 k = true := by rfl) : Run P r ops K p ⟨n, m, ds⟩ H := by
  rw [ev_ds (ds := ds)] at hx hy
  have hT := (ty_get hi).2.2.1
  exact act_of (N := fun v' H' => H' = slR el s (len + kk) v' (vs ++ ys) :: H) h hkk (fun o ho => ef_of (by simp [ho]) fun c w ha hS => by
      have hd : ((∃ a, base = a) ∧ len = 0 ∧ vs = []) ∨ ∃ b o, base = some ⟨b, o, none⟩ ∧ ∀ (j : Nat) (u : Value), vs[j]? = some u → w.cell? ⟨b, o + j, none⟩ = some u := by
        rcases hD w hS with ⟨⟨a, e⟩, e1, e2⟩ | ⟨b, o', c', e, e1⟩
        · exact .inl ⟨⟨base, rfl⟩, e1, e2⟩
        · cases e; exact .inr ⟨b, o', rfl, e1⟩
      obtain ⟨v', w', e1, e2⟩ := run_grow (y := true) (ty := o.type) hT (src_of hT hF hk h1 w hS) hd hl hg hlc hb.1 hb.2 hS
      refine ⟨v', w', _, .inl ?_, rfl, e2⟩
      simp [execOp, ho, resolve, invoke, builtin, ha.ev hx, ha.ev hy, e1]) fun v' H' e => by subst e; exact q v'
/-- Appending nothing: the same slice, whatever it is -/
theorem r_ap0 [T : Ty P] {d k : Nat} {x y : Operand} {t el : TypeId} {s bz len cap : Nat} {z : List Value} {a1 : Value} {a2 : List Value} {a3 a4 : Nat} {base : Option Addr} {vy : Value}
    (hF : Fst vy 0 [] H) (hlc : len ≤ cap) (q : Run P r ops K p' ⟨n, (d, .slice base len cap) :: m, ds⟩ H)
    (h : stepM ops p n m = some (some d, .call ⟨.builtin .append, #[x, y], #[t, t]⟩, k, p') := by rfl) (hx : Env.ev ⟨n, m, []⟩ x = some (.slice base len cap) := by rfl) (hy : Env.ev ⟨n, m, []⟩ y = some vy := by rfl)
    (hi : tget T.tab t = some ⟨.slice el s bz z, a1, a2, a3, a4⟩ := by rfl) (hkk : Nat.ble 2 k = true := by rfl) : Run P r ops K p ⟨n, m, ds⟩ H := by
  rw [ev_ds (ds := ds)] at hx hy
  have hT := (ty_get hi).2.2.1
  obtain ⟨ii, zv, g1, g3, g4, g2, g5⟩ := id hT.info
  exact act_of (N := fun v' H' => v' = .slice base len cap ∧ H' = H) h hkk (fun o ho => ef_of (by simp [ho]) fun c w ha hS => by
      have hsrc := src_of (k := 0) (ys := []) hT hF (by simp) (fun u h => by cases h) w hS
      refine ⟨.slice base len cap, w, _, .inl ?_, ⟨rfl, rfl⟩, hS⟩
      have hc := hsrc.cells
      subst g2
      have : (Builtin.append_ #[t, t] o.type #[.slice base len cap, vy]).run P w = .ok (.slice base len cap) w := by
        cases base <;> simp [Builtin.append_, run_underlying hT.out, sizeOf, typeInfo, g1, hsrc.len, hc, storeCells, hlc]
      simp [execOp, ho, resolve, invoke, builtin, ha.ev hx, ha.ev hy, this]) fun v' H' ⟨e1, e2⟩ => by subst e1 e2; exact q

/-! ### Making -/
/-- so many zeros -/
def zeros (k : Nat) (z : List Value) : List Value := (List.replicate k z).flatten
theorem zeros_len (k : Nat) (z : List Value) : (zeros k z).length = k * z.length := by simp [zeros]
theorem zeros_eq (zc : Array Value) : ∀ (c : Nat), ((List.range (c * zc.size)).map fun i => zc[i % zc.size]!) = zeros c zc.toList
  | 0 => by simp [zeros]
  | c + 1 => by
    have ih := zeros_eq zc c
    have e1 : (List.range zc.size).map (fun i => zc[(c * zc.size + i) % zc.size]!) = zc.toList := by
      apply List.ext_getElem?
      intro i
      by_cases hi : i < zc.size
      · have : (c * zc.size + i) % zc.size = i := by rw [Nat.mul_comm, Nat.mul_add_mod, Nat.mod_eq_of_lt hi]
        simp [hi, Nat.mod_eq_of_lt hi]
      · simp [hi]
    rw [Nat.add_mul, Nat.one_mul, List.range_add, List.map_append, ih, List.map_map]
    rw [show ((fun i => zc[i % zc.size]!) ∘ fun x => c * zc.size + x) = fun i => zc[(c * zc.size + i) % zc.size]! from rfl, e1]
    simp [zeros, List.replicate_succ', List.flatten_append]

theorem r_mk [T : Ty P] {d k : Nat} {x y : Operand} {t el : TypeId} {s bz : Nat} {z : List Value} {a1 : Value} {a2 : List Value} {a3 a4 : Nat} {l l' : Int} {c : Nat}
    (q : ∀ b, Run P r ops K p' ⟨n, (d, .slice (some ⟨b, 0, none⟩) c c) :: m, ds⟩ (cl b (zeros c z) el :: H))
    (h : stepM ops p n m = some (some d, .makeSlice t x y, k, p') := by rfl) (hx : Env.ev ⟨n, m, []⟩ x = some (.int .i64 l) := by rfl) (hy : Env.ev ⟨n, m, []⟩ y = some (.int .i64 l') := by rfl)
    (hi : tget T.tab t = some ⟨.slice el s bz z, a1, a2, a3, a4⟩ := by rfl) (hl : l = (c : Int) := by first | rfl | omega) (hl' : l' = (c : Int) := by first | rfl | omega)
    (hb : c * bz ≤ 281474976710656 ∧ c ≤ 9223372036854775807 := by omega) (hk : Nat.ble 2 k = true := by rfl) : Run P r ops K p ⟨n, m, ds⟩ H := by
  rw [ev_ds (ds := ds)] at hx hy
  subst hl hl'
  have hT := (ty_get hi).2.2.1
  obtain ⟨ii, zv, g1, g3, g4, g2, g5⟩ := hT.info
  have hzs : z.length = s := hT.len
  exact act_of (N := fun v H' => ∃ b, v = .slice (some ⟨b, 0, none⟩) c c ∧ H' = cl b (zeros c z) el :: H) h hk (fun o ho => ef_of (by simp [ho]) fun e w ha hS => by
    refine ⟨_, w.alloc (.cells (zeros c z).toArray el), _, .inl ?_, ⟨w.heap.size, rfl, rfl⟩, sat_alloc hS⟩
    have hbz : (ii.bytes : Int) * (c : Int) ≤ 281474976710656 := by
      have : (ii.bytes : Int) * (c : Int) = ((c * bz : Nat) : Int) := by rw [g5, Nat.mul_comm, Int.natCast_mul]
      omega
    have hr := run_make (P := P) w t el ii zv hT.out g1 g3 .i64 .i64 (c : Int) (c : Int) (by omega) (Int.le_refl _) hbz (by omega)
    have key : madeCells zv.cells ((c : Int).toNat * ii.size) = (zeros c z).toArray := by
      apply Array.toList_inj.1
      have hz0 : zv.cells.size = ii.size := by rw [g4]; simp [hzs, g2]
      have := zeros_eq zv.cells c
      rw [Int.toNat_natCast, ← hz0]
      unfold madeCells
      rw [Array.toList_map, Array.toList_range, this, g4]
    rw [key] at hr
    simp only [Int.toNat_natCast] at hr
    simp [execOp, ho, ha.ev hx, ha.ev hy, hr]) fun v H' ⟨b, e1, e2⟩ => by subst e1; subst e2; exact q b

/-! ### Cutting, clearing, copying -/
theorem pure_of {d : Option Nat} {op : Op} {k : Nat} {v : Value} (h : stepM ops p n m = some (d, op, k, p'))
    (hE : ∀ o : Oper, o.op = op → Qp P r o ⟨n, m, ds⟩ v) (q : Run P r ops K p' ⟨n, putM d v m, ds⟩ H) : Run P r ops K p ⟨n, m, ds⟩ H := by
  obtain ⟨o, h1, h2, h3, h4, h5⟩ := stepM_spec h
  refine run_pure h1 (hE o h3) (h5 ds) h4 ?_
  subst h2
  cases hd : o.dst <;> rw [hd] at q <;> exact q

/-- a bound that is told, or left out -/
def bnd (n : Nat) (m : List (Nat × Value)) (dflt : Nat) : Option Operand → Option Int
  | none => some (dflt : Int)
  | some y => match Env.ev ⟨n, m, []⟩ y with
    | some (.int .i64 a) => some a
    | _ => none
theorem r_cut [T : Ty P] {d k : Nat} {x : Operand} {t el : TypeId} {lo hi : Option Operand} {s bz b o l c : Nat} {z : List Value} {a1 : Value} {a2 : List Value} {a3 a4 : Nat} {lz hz : Int} (lo' hi' : Nat)
    (q : Run P r ops K p' ⟨n, (d, .slice (some ⟨b, if c = lo' then o else o + lo' * s, none⟩) (hi' - lo') (c - lo')) :: m, ds⟩ H)
    (h : stepM ops p n m = some (some d, .slice t x lo hi none, k, p') := by rfl)
    (hx : Env.ev ⟨n, m, []⟩ x = some (.slice (some ⟨b, o, none⟩) l c) := by rfl) (hi0 : tget T.tab t = some ⟨.slice el s bz z, a1, a2, a3, a4⟩ := by rfl)
    (h1 : bnd n m 0 lo = some lz := by rfl) (h2 : bnd n m l hi = some hz := by rfl) (e1 : lz = (lo' : Int) := by first | rfl | omega) (e2 : hz = (hi' : Int) := by first | rfl | omega)
    (hr : lo' ≤ hi' ∧ hi' ≤ c := by omega) : Run P r ops K p ⟨n, m, ds⟩ H := by
  rw [ev_ds (ds := ds)] at hx
  subst e1 e2
  have hT := (ty_get hi0).2.2.1
  refine pure_of h (fun o' ho => qp_of (by simp [ho]) fun e w ha => ?_) q
  obtain ⟨ii, v, g1, _, _, g2, _⟩ := hT.info
  have hs : (sizeOf el).run P w = .ok s w := run_sizeOf ⟨ii, g1, g2⟩ w
  have key : ∀ {dflt : Nat} {y : Option Operand} {j : Nat}, bnd n m dflt y = some (j : Int) → (y = none ∧ j = dflt) ∨ ∃ z, y = some z ∧ e.eval z = .int .i64 (j : Int) := by
    intro dflt y j hb
    cases y with
    | none => simp only [bnd, Option.some.injEq] at hb; exact .inl ⟨rfl, by omega⟩
    | some z =>
      refine .inr ⟨z, rfl, ?_⟩
      simp only [bnd] at hb
      split at hb
      · rename_i a hz
        cases hb
        rw [ev_ds (ds := ds)] at hz
        exact ha.ev hz
      · cases hb
  have e1 : (Instr.sliceBounds true l c (lo.map e.eval) (hi.map e.eval) none).run P w = .ok (lo', hi', c) w := by
    unfold Instr.sliceBounds
    rcases key h1 with ⟨rfl, rfl⟩ | ⟨z1, rfl, a1⟩ <;> rcases key h2 with ⟨rfl, rfl⟩ | ⟨z2, rfl, a2⟩
    · simp
    · simp [a2, Instr.sliceBound, asIntOf, hr.2]
    · simp [a1, Instr.sliceBound, asIntOf, hr.1]
    · simp [a1, a2, Instr.sliceBound, asIntOf, hr.1, hr.2]
  simp only [execOp, ho, Instr.sliceAt, Instr.slice, ha.ev hx, Option.map_none, Sem.run_bind, run_underlying hT.out, Result.andThen_ok, e1, hs, Sem.run_pure]
  simp only [Option.map_some, add_mk]
  split <;> rfl

theorem one' {u : Value} (h : oneCell u = true) : u.oneCell' = true := by cases u <;> simp_all [oneCell, Value.oneCell']
/-- the cells of a slice, one each, are turned to zero -/
theorem r_clear [T : Ty P] {d : Option Nat} {k : Nat} {x : Operand} {t el et : TypeId} {bz b o l c : Nat} {z : Value} {cs : List Value} {a1 : Value} {a2 : List Value} {a3 a4 : Nat} (hfit : o + l ≤ cs.length)
    (q : Run P r ops K p' ⟨n, m', ds⟩ (cl b (cs.take o ++ List.replicate l z ++ cs.drop (o + l)) et :: R))
    (h : stepM ops p n m = some (d, .call ⟨.builtin .clear, #[x], #[t]⟩, k, p') := by rfl)
    (hx : Env.ev ⟨n, m, []⟩ x = some (.slice (some ⟨b, o, none⟩) l c) := by rfl) (hi : tget T.tab t = some ⟨.slice el 1 bz [z], a1, a2, a3, a4⟩ := by rfl) (hb : Tk H b cs et R := by infer_instance)
    (h1 : oneCell z = true := by rfl) (hm : putO d (.tuple #[]) m = some m' := by rfl) (hk : Nat.ble 2 k = true := by rfl) : Run P r ops K p ⟨n, m, ds⟩ H := by
  rw [ev_ds (ds := ds)] at hx
  have hT := (ty_get hi).2.2.1
  obtain ⟨ii, zv, g1, g3, g4, g2, _⟩ := hT.info
  refine act_of (N := fun v H' => v = .tuple #[] ∧ H' = cl b (cs.take o ++ List.replicate l z ++ cs.drop (o + l)) et :: R) h hk (fun o' ho => ef_of (by simp [ho]) fun e w ha hS => ?_) fun v H' ⟨e1, e2⟩ => by subst e1; subst e2; rw [putO_eq hm]; exact q
  have hget := hb.get hS
  rcases Nat.eq_zero_or_pos l with rfl | hl
  · refine ⟨.tuple #[], w, _, .inl ?_, ⟨rfl, rfl⟩, ?_⟩
    · simp [execOp, ho, resolve, invoke, builtin, Builtin.clear_, ha.ev hx, run_underlying hT.out]
    · simpa using hb.out.ent _ hS
  · have hst := run_storeCells_cells (P := P) b o (List.replicate l z) 0 w (fun j hj => by
        rw [Nat.add_zero, cell_of hget, List.getElem?_eq_getElem (by simp at hj; omega)]; rfl) (fun j hj => frozen_of hget) (fun u hu => one' (by rw [(List.mem_replicate.1 hu).2]; exact h1))
    have hz : (Builtin.zeroCells zv.cells l).toList = List.replicate l z := by
      have := zeros_eq zv.cells l
      unfold Builtin.zeroCells
      rw [Array.toList_map, Array.toList_range, this, g4]
      simp [zeros]
    have hne : l ≠ 0 := by omega
    have hz0 : (zeroValue el).run P w = .ok zv w := by simp [zeroValue, run_typeInfo g1, g3]
    have hr : (Builtin.clear_ #[t] o'.type #[.slice (some ⟨b, o, none⟩) l c]).run P w = .ok (.tuple #[]) (w.setCells b o (List.replicate l z)) := by
      unfold Builtin.clear_
      cases l with
      | zero => omega
      | succ l =>
        simp only [Nat.add_zero] at hst
        simp [run_underlying hT.out, hz0, hz, hst]
    refine ⟨.tuple #[], w.setCells b o (List.replicate l z), _, .inl ?_, ⟨rfl, rfl⟩, ?_⟩
    · simp [execOp, ho, resolve, invoke, builtin, ha.ev hx, hr]
    · have hset := heapOf_setCells b et (List.replicate l z) o w cs hget (by simpa using hfit)
      have := Sat.pt_set (hb.out.ent _ hS) hset.1 hset.2 (x_setCells _ _ _ _)
      simpa [cl] using this

/-- so many cells of a slice, one each, are copied into another one: both lie in whatever blocks -/
theorem r_copy [T : Ty P] {d : Option Nat} {k : Nat} {x y : Operand} {t t' el et : TypeId} {bz b o l c : Nat} {sa : Addr} {sl sc : Nat} {z ys cs : List Value} {a1 : Value} {a2 : List Value} {a3 a4 : Nat}
    (hys : ∀ w : World, Sat H (heapOf w) → ∀ (j : Nat) (u : Value), ys[j]? = some u → w.cell? (sa.add j) = some u) (hlen : ys.length = Nat.min sl l) (hfit : o + ys.length ≤ cs.length) (h1 : ∀ u ∈ ys, oneCell u = true)
    (q : Run P r ops K p' ⟨n, m', ds⟩ (cl b (cs.take o ++ ys ++ cs.drop (o + ys.length)) et :: R))
    (h : stepM ops p n m = some (d, .call ⟨.builtin .copy, #[x, y], #[t, t']⟩, k, p') := by rfl)
    (hx : Env.ev ⟨n, m, []⟩ x = some (.slice (some ⟨b, o, none⟩) l c) := by rfl) (hy : Env.ev ⟨n, m, []⟩ y = some (.slice (some sa) sl sc) := by rfl) (hi : tget T.tab t = some ⟨.slice el 1 bz z, a1, a2, a3, a4⟩ := by rfl) (hb : Tk H b cs et R := by infer_instance)
    (hm : putO d (.int .i64 ys.length) m = some m' := by rfl) (hk : Nat.ble 2 k = true := by rfl) : Run P r ops K p ⟨n, m, ds⟩ H := by
  rw [ev_ds (ds := ds)] at hx hy
  have hT := (ty_get hi).2.2.1
  obtain ⟨ii, zv, g1, g3, g4, g2, _⟩ := hT.info
  refine act_of (N := fun v H' => v = .int .i64 ys.length ∧ H' = cl b (cs.take o ++ ys ++ cs.drop (o + ys.length)) et :: R) h hk (fun o' ho => ef_of (by simp [ho]) fun e w ha hS => ?_) fun v H' ⟨e1, e2⟩ => by subst e1; subst e2; rw [putO_eq hm]; exact q
  have hget := hb.get hS
  have hr := run_copy_cells (P := P) w t t' o'.type el b o l c sa sl sc ys hT.out (by rw [g1]; simp [g2]) hlen (hys w hS) (fun j hj => by rw [cell_of hget, List.getElem?_eq_getElem (by omega)]; rfl) (fun j hj => frozen_of hget) (fun u hu => one' (h1 u hu))
  refine ⟨.int .i64 ys.length, w.setCells b o ys, _, .inl ?_, ⟨rfl, rfl⟩, ?_⟩
  · simp [execOp, ho, resolve, invoke, builtin, ha.ev hx, ha.ev hy, hr, goInt]
  · have hset := heapOf_setCells b et ys o w cs hget hfit
    exact Sat.pt_set (hb.out.ent _ hS) hset.1 hset.2 (x_setCells _ _ _ _)

/-! ### Slices as values of which only that is known -/
theorem sl_one {z : Bool} {t : TypeId} {s len : Nat} {v : Value} {vs : List Value} {h : Hp} (hS : Sat (slZ z t s len v vs :: R) h) : oneCell v = true := by
  rcases slz_open hS with ⟨⟨a, rfl⟩, _⟩ | ⟨b, pre, cap, rest, rfl, _⟩ <;> rfl
theorem e_one {z : Bool} {e : Env} {c : Code} {t : TypeId} {s len : Nat} {v : Value} {vs : List Value} (hs : Sel H (slZ z t s len v vs) R) (q : oneCell v = true → Ex P r c K e H) : Ex P r c K e H := fun a w ha hS => q (sl_one (hs.ent _ hS)) a w ha hS
theorem r_one {z : Bool} {e : Env} {t : TypeId} {s len : Nat} {v : Value} {vs : List Value} (hs : Sel H (slZ z t s len v vs) R) (q : oneCell v = true → Run P r ops K p e H) : Run P r ops K p e H := fun a w ha hS => q (sl_one (hs.ent _ hS)) a w ha hS
/-- a value of one cell, whatever it is, is boxed -/
theorem r_bv {d k : Nat} {x : Operand} {t : TypeId} {v : Value} (hv : oneCell v = true) (q : ∀ b, Run P r ops K p' ⟨n, (d, .pointer (some ⟨b, 0, none⟩)) :: m, ds⟩ (cl b [v] t :: H))
    (h : stepM ops p n m = some (some d, .box t x, k, p') := by rfl) (hx : Env.ev ⟨n, m, []⟩ x = some v := by rfl) (hk : Nat.ble 2 k = true := by rfl) : Run P r ops K p ⟨n, m, ds⟩ H :=
  r_b q h hx (by cases v <;> first | rfl | cases hv) hk
/-- a value of one cell, whatever it is, is stored -/
theorem r_sv [T : Ty P] {k : Nat} {x y : Operand} {t et : TypeId} {b j : Nat} {cs cs' : List Value} {v : Value} {i : TyI} (h1 : oneCell v = true) (q : Run P r ops K p' ⟨n, m, ds⟩ (cl b cs' et :: R))
    (h : stepM ops p n m = some (none, .store t x y, k, p') := by rfl) (hx : Env.ev ⟨n, m, []⟩ x = some (.pointer (some ⟨b, j, none⟩)) := by rfl) (hy : Env.ev ⟨n, m, []⟩ y = some v := by rfl)
    (hb : Tk H b cs et R := by infer_instance) (hc : setC cs j v = some cs' := by rfl) (hi : tget T.tab t = some i := by rfl) (hz : i.size = 1 := by rfl) (hk : Nat.ble 2 k = true := by rfl) : Run P r ops K p ⟨n, m, ds⟩ H := by
  rw [ev_ds (ds := ds)] at hx hy
  have hI := info_of (ty_get hi)
  rw [hz] at hI
  exact act_of h hk (fun o ho => ef_store1 hI ho hx hy hb (setC_spec _ _ _ _ hc) h1) fun v' H' e => by subst e; exact q
end
end Go.Sl
