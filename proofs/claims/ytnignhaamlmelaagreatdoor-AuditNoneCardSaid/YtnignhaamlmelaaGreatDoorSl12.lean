/- Ranges over maps, in whatever order; the map's keys and values aren't changed meanwhile. -/
import Derived.Test.YtnignhaamlmelaaGreatDoorSl11
namespace Go.Sl
open Go

section
variable {K V : Type} {P : Program} {kt : TypeId} {κ : K → Value} {ν : V → Value}

def getNat : List Nat → Nat → Nat := fun bs i => bs.getD i 0
structure IOk (l : List (K × V)) (done : List Nat) (bs : List Nat) (clk : Nat) : Prop where
  ok : MOk l bs clk
  lt : ∀ i ∈ done, i < l.length
  nd : done.Nodup
/-- a map at b, and at bi who goes through it: the entries of these places have been -/
def mpi (bi b : Nat) (κ : K → Value) (ν : V → Value) (l : List (K × V)) (done : List Nat) : SP :=
  rep (fun g : List Nat × Nat => IOk l done g.1 g.2) fun g => [pt bi (.mapIter (some b) g.2 (done.map (getNat g.1)).toArray g.2), pt b (.map (ents κ ν l g.1).toArray g.2)]

theorem mpi_mp {bi b : Nat} {l : List (K × V)} {done : List Nat} {R : List SP} : Ent (mpi bi b κ ν l done :: R) (mp b κ ν l :: R) := fun h s => by
  obtain ⟨⟨bs, clk⟩, h1, s⟩ := rep_open h s
  exact mp_shut h1.ok (Sat.tail s)

theorem ents_get : ∀ (l : List (K × V)) (bs : List Nat) (i : Nat), bs.length = l.length → (ents κ ν l bs)[i]? = (l[i]?).map fun x => { key := κ x.1, val := ν x.2, born := getNat bs i }
  | [], bs, i, _ => by simp [ents]
  | (k, v) :: l, [], i, h => by simp at h
  | (k, v) :: l, b :: bs, 0, h => by simp [ents, getNat]
  | (k, v) :: l, b :: bs, i + 1, h => by
    have := ents_get l bs i (by simpa using h)
    simp only [ents, List.getElem?_cons_succ, this]
    simp [getNat]
theorem born_inj {l : List (K × V)} {bs : List Nat} {clk i j : Nat} (h : MOk l bs clk) (hi : i < l.length) (hj : j < l.length) (e : getNat bs i = getNat bs j) : i = j := by
  have hi' : i < bs.length := by rw [h.len]; exact hi
  have hj' : j < bs.length := by rw [h.len]; exact hj
  simp only [getNat, List.getD_eq_getElem?_getD, List.getElem?_eq_getElem hi', List.getElem?_eq_getElem hj', Option.getD_some] at e
  have hp := List.pairwise_iff_getElem.1 h.nd
  rcases Nat.lt_trichotomy i j with hlt | rfl | hlt
  · exact absurd e (hp i j hi' hj' hlt)
  · rfl
  · exact absurd e.symm (hp j i hj' hi' hlt)
theorem born_lt {l : List (K × V)} {bs : List Nat} {clk i : Nat} (h : MOk l bs clk) (hi : i < l.length) : getNat bs i < clk := by
  have hi' : i < bs.length := by rw [h.len]; exact hi
  simp only [getNat, List.getD_eq_getElem?_getD, List.getElem?_eq_getElem hi', Option.getD_some]
  exact h.lt _ (List.getElem_mem hi')

variable {r : Option Nat} {ops : Array Oper} {K0 : Ko} {p p' : Plan} {n : Nat} {m m' : List (Nat × Value)} {ds : List Deferred} {H R : List SP}

theorem r_rg [T : Ty P] (l : List (K × V)) {d k : Nat} {x : Operand} {t et : TypeId} {b : Nat} {a1 : Value} {a2 : List Value} {a3 a4 : Nat} (hs : Sel H (mp b κ ν l) R)
    (q : ∀ bi, Run P r ops K0 p' ⟨n, (d, .pointer (some ⟨bi, 0, none⟩)) :: m, ds⟩ (mpi bi b κ ν l [] :: R))
    (h : stepM ops p n m = some (some d, .range t x, k, p') := by rfl) (hx : Env.ev ⟨n, m, []⟩ x = some (.map (some b)) := by rfl)
    (hi : tget T.tab t = some ⟨.map kt et, a1, a2, a3, a4⟩ := by rfl) (hk : Nat.ble 2 k = true := by rfl) : Run P r ops K0 p ⟨n, m, ds⟩ H := by
  rw [ev_ds (ds := ds)] at hx
  have hT := (ty_get hi).2.2.1
  refine act_of (N := fun v H' => ∃ bi, v = .pointer (some ⟨bi, 0, none⟩) ∧ H' = mpi bi b κ ν l [] :: R) h hk (fun o ho => ef_of (by simp [ho]) fun e w ha hS => ?_) fun v H' ⟨b, e1, e2⟩ => by subst e1; subst e2; exact q b
  obtain ⟨bs, clk, hm, s⟩ := mp_open (hs.ent _ hS)
  have hg := run_getO (P := P) (Sat.pt_get s)
  refine ⟨_, w.alloc (.mapIter (some b) clk #[] clk), _, .inl ?_, ⟨w.heap.size, rfl, rfl⟩, ?_⟩
  · simp [execOp, ho, ha.ev hx, Instr.range, run_underlying hT.out, hg]
  · exact rep_shut (φ := fun g : List Nat × Nat => IOk l [] g.1 g.2) (L := fun g => [pt w.heap.size (.mapIter (some b) g.2 (([] : List Nat).map (getNat g.1)).toArray g.2), pt b (.map (ents κ ν l g.1).toArray g.2)]) (bs, clk) ⟨hm, by simp, by simp⟩ _ (sat_alloc s)

/-- one step: all have been, or one that hasn't been yet -/
theorem r_nx {l : List (K × V)} {done : List Nat} {d k : Nat} {x : Operand} {bi b : Nat} (hs : Sel H (mpi bi b κ ν l done) R)
    (q0 : (∀ i, i < l.length → i ∈ done) → Run P r ops K0 p' ⟨n, (d, .tuple #[.bool false]) :: m, ds⟩ (mpi bi b κ ν l done :: R))
    (q1 : ∀ i kk v, l[i]? = some (kk, v) → i ∉ done → Run P r ops K0 p' ⟨n, (d, .tuple #[.bool true, κ kk, ν v]) :: m, ds⟩ (mpi bi b κ ν l (done ++ [i]) :: R))
    (h : stepM ops p n m = some (some d, .next x false, k, p') := by rfl) (hx : Env.ev ⟨n, m, []⟩ x = some (.pointer (some ⟨bi, 0, none⟩)) := by rfl) (hk : Nat.ble 2 k = true := by rfl) : Run P r ops K0 p ⟨n, m, ds⟩ H := by
  rw [ev_ds (ds := ds)] at hx
  refine act_of (N := fun v H' => ((∀ i, i < l.length → i ∈ done) ∧ v = .tuple #[.bool false] ∧ H' = mpi bi b κ ν l done :: R) ∨
      ∃ i kk v', l[i]? = some (kk, v') ∧ i ∉ done ∧ v = .tuple #[.bool true, κ kk, ν v'] ∧ H' = mpi bi b κ ν l (done ++ [i]) :: R) h hk (fun o ho => ef_of (by simp [ho]) fun e w ha hS => ?_)
    fun v H' hN => by
      rcases hN with ⟨h0, rfl, rfl⟩ | ⟨i, kk, v', h1, h2, rfl, rfl⟩
      · exact q0 h0
      · exact q1 i kk v' h1 h2
  have hS' := hs.ent _ hS
  obtain ⟨⟨bs, clk⟩, hI, s⟩ := rep_open _ hS'
  have hI : IOk l done bs clk := hI
  have hm := hI.ok
  have g1 : w.heap[bi]? = some (.mapIter (some b) clk (done.map (getNat bs)).toArray clk) := Sat.pt_get s
  have g2 : w.heap[b]? = some (.map (ents κ ν l bs).toArray clk) := Sat.pt_get (Sat.swap s)
  have r1 : ∀ w : World, w.heap[bi]? = some (.mapIter (some b) clk (done.map (getNat bs)).toArray clk) → (getObj bi).run P w = .ok (.mapIter (some b) clk (done.map (getNat bs)).toArray clk) w := fun w h => by simp [getObj, Sem.run, h]
  have r2 := run_getO (P := P) g2
  -- what is left
  let L : List MapEntry := (ents κ ν l bs).filter fun e => !(done.map (getNat bs)).contains e.born
  have hmem : ∀ e ∈ L, ∃ i kk v, l[i]? = some (kk, v) ∧ i ∉ done ∧ e = { key := κ kk, val := ν v, born := getNat bs i } := by
    intro e he
    obtain ⟨h1, h2⟩ := List.mem_filter.1 he
    obtain ⟨i, hi⟩ := List.mem_iff_getElem?.1 h1
    rw [ents_get l bs i hm.len] at hi
    rw [Option.map_eq_some_iff] at hi
    obtain ⟨⟨kk, v⟩, h3, rfl⟩ := hi
    refine ⟨i, kk, v, h3, fun hd => ?_, rfl⟩
    simp only [Bool.not_eq_true', List.contains_eq_mem, decide_eq_false_iff_not] at h2
    exact h2 (List.mem_map.2 ⟨i, hd, rfl⟩)
  have hall : L = [] → ∀ i, i < l.length → i ∈ done := by
    intro hL i hi
    by_cases hd : i ∈ done
    · exact hd
    · exfalso
      have hmem2 : ({ key := κ l[i].1, val := ν l[i].2, born := getNat bs i } : MapEntry) ∈ L := by
        refine List.mem_filter.2 ⟨List.mem_iff_getElem?.2 ⟨i, by rw [ents_get l bs i hm.len]; simp [hi]⟩, ?_⟩
        simp only [Bool.not_eq_true', List.contains_eq_mem, decide_eq_false_iff_not]
        intro hc
        obtain ⟨j, hj, e⟩ := List.mem_map.1 hc
        have := born_inj hm (hI.lt j hj) hi e
        subst this; exact hd hj
      rw [hL] at hmem2; cases hmem2
  have hlt : ∀ e ∈ L, e.born < clk := fun e he => by
    obtain ⟨i, kk, v, h1, _, rfl⟩ := hmem e he
    exact born_lt hm (List.getElem?_eq_some_iff.1 h1).1
  have hlt' : ∀ e ∈ ents κ ν l bs, e.born < clk := fun e he => by
    obtain ⟨i, hi⟩ := List.mem_iff_getElem?.1 he
    rw [ents_get l bs i hm.len, Option.map_eq_some_iff] at hi
    obtain ⟨x, h3, rfl⟩ := hi
    exact born_lt hm (List.getElem?_eq_some_iff.1 h3).1
  have c1 : (!(done.map (getNat bs)).toArray.isEmpty && !(ents κ ν l bs).toArray.isEmpty && (ents κ ν l bs).toArray.all fun e => decide (e.born ≥ clk)) = false := by
    cases hE : ents κ ν l bs with
    | nil => simp
    | cons e0 tl =>
      have := hlt' e0 (by rw [hE]; simp)
      simp; intros; omega
  have c2 : (ents κ ν l bs).toArray.filter (fun e => !(done.map (getNat bs)).toArray.contains e.born) = L.toArray := by
    simp [L]
  have c3 : L.toArray.filter (fun e => decide (e.born < clk)) = L.toArray := by
    rw [Array.filter_eq_self]
    intro e he
    simpa using hlt e (by simpa using he)
  have c4 : L.toArray.filter (fun e => decide (e.born ≥ clk)) = #[] := by
    rw [Array.filter_eq_empty_iff]
    intro e he
    have := hlt e (by simpa using he)
    simp; omega
  by_cases hL : L = []
  · refine ⟨.tuple #[.bool false], w, _, .inl ?_, .inl ⟨hall hL, rfl, rfl⟩, hS'⟩
    rw [hL] at c2 c3 c4
    simp only [execOp, ho, ha.ev hx, Instr.next, Sem.run_bind, r1 w g1, Result.andThen_ok, r2, c1, Bool.false_eq_true, if_false, Sem.run_pure, c2, c3, c4]
    simp [Question.forced]
  · have hpos : 0 < L.length := List.length_pos_iff.2 hL
    have hch : ∃ j w1, j < L.length ∧ heapOf w1 = heapOf w ∧ w1.heap = w.heap ∧ (choose (.mapNext L.length)).run P w = .ok j w1 := by
      rw [run_choose_drew]
      split
      · exact ⟨0, w, hpos, rfl, rfl, rfl⟩
      · exact ⟨_, w.drew, Nat.mod_lt _ hpos, rfl, rfl, rfl⟩
    obtain ⟨j, w1, hj, hh, hh2, hc⟩ := hch
    obtain ⟨i, kk, v, h1, h2, h3⟩ := hmem L[j] (List.getElem_mem hj)
    have hset : (setObj bi (.mapIter (some b) clk ((done.map (getNat bs)).toArray.push (getNat bs i)) clk)).run P w1 = .ok () (w1.putObj bi (.mapIter (some b) clk ((done.map (getNat bs)).toArray.push (getNat bs i)) clk)) := by
      simp [setObj, Sem.run, hh2, g1, World.putObj]
    refine ⟨.tuple #[.bool true, κ kk, ν v], w1.putObj bi (.mapIter (some b) clk ((done.map (getNat bs)).toArray.push (getNat bs i)) clk), _, .inl ?_, .inr ⟨i, kk, v, h1, h2, rfl, rfl⟩, ?_⟩
    · have hne : L.toArray.isEmpty = false := by simpa using hL
      simp only [execOp, ho, ha.ev hx, Instr.next, Sem.run_bind, r1 w g1, Result.andThen_ok, r2, c1, Bool.false_eq_true, if_false, Sem.run_pure, c2, c3, c4, hne]
      have hcand : (#[] : Array (Option MapEntry)) ++ (L.toArray ++ #[]).map some = (L.map some).toArray := by simp
      rw [hcand]
      have hsz : (L.map some).toArray.size = L.length := by simp
      have hgetj : ((L.map some).toArray[j]? : Option (Option MapEntry)) = some (some L[j]) := by simp [hj]
      rw [hsz]
      simp only [Sem.run_bind, hc, Result.andThen_ok, hgetj, h3, hset, Sem.run_pure]
    · rw [← hh] at s
      have s2 := sat_put (o' := .mapIter (some b) clk ((done.map (getNat bs)).toArray.push (getNat bs i)) clk) s
      have e9 : (done.map (getNat bs)).toArray.push (getNat bs i) = ((done ++ [i]).map (getNat bs)).toArray := by simp
      rw [e9] at s2 ⊢
      refine rep_shut (φ := fun g : List Nat × Nat => IOk l (done ++ [i]) g.1 g.2) (L := fun g => [pt bi (.mapIter (some b) g.2 ((done ++ [i]).map (getNat g.1)).toArray g.2), pt b (.map (ents κ ν l g.1).toArray g.2)]) (bs, clk) ⟨hm, fun x hx => ?_, ?_⟩ _ s2
      · rcases List.mem_append.1 hx with hx | hx
        · exact hI.lt x hx
        · simp at hx; subst hx; exact (List.getElem?_eq_some_iff.1 h1).1
      · rw [List.nodup_append]
        exact ⟨hI.nd, by simp, fun a ha b hb => by simp at hb; subst hb; exact fun e => h2 (e ▸ ha)⟩

/-- the entry at which the last step came -/
theorem r_en {l : List (K × V)} {done : List Nat} {i : Nat} {kk : K} {v : V} {d k : Nat} {x : Operand} {bi b : Nat} (hs : Sel H (mpi bi b κ ν l (done ++ [i])) R) (hl : l[i]? = some (kk, v))
    (q : Run P r ops K0 p' ⟨n, (d, .tuple #[κ kk, ν v]) :: m, ds⟩ H)
    (h : stepM ops p n m = some (some d, .entry x, k, p') := by rfl) (hx : Env.ev ⟨n, m, []⟩ x = some (.pointer (some ⟨bi, 0, none⟩)) := by rfl) (hk : Nat.ble 1 k = true := by rfl) : Run P r ops K0 p ⟨n, m, ds⟩ H := by
  rw [ev_ds (ds := ds)] at hx
  refine read_of h hk (fun o ho => qt_of (by simp [ho]) fun e w ha hS => ?_) q
  obtain ⟨⟨bs, clk⟩, hI, s⟩ := rep_open _ (hs.ent _ hS)
  have hI : IOk l (done ++ [i]) bs clk := hI
  have hm := hI.ok
  have g1 : w.heap[bi]? = some (.mapIter (some b) clk ((done ++ [i]).map (getNat bs)).toArray clk) := Sat.pt_get s
  have g2 : w.heap[b]? = some (.map (ents κ ν l bs).toArray clk) := Sat.pt_get (Sat.swap s)
  have r1 : (getObj bi).run P w = .ok (.mapIter (some b) clk ((done ++ [i]).map (getNat bs)).toArray clk) w := by simp [getObj, Sem.run, g1]
  have r2 := run_getO (P := P) g2
  have hil : i < l.length := (List.getElem?_eq_some_iff.1 hl).1
  have hf : (ents κ ν l bs).find? (fun e => e.born == getNat bs i) = some { key := κ kk, val := ν v, born := getNat bs i } := by
    have hg : (ents κ ν l bs)[i]? = some { key := κ kk, val := ν v, born := getNat bs i } := by rw [ents_get l bs i hm.len, hl]; rfl
    rw [List.find?_eq_some_iff_getElem]
    refine ⟨by simp, i, ?_, ?_, fun j hj => ?_⟩
    · rw [ents_len l bs hm.len]; exact hil
    · rw [List.getElem?_eq_some_iff] at hg; exact hg.2
    · have hjl : j < l.length := by omega
      have hgj := ents_get (κ := κ) (ν := ν) l bs j hm.len
      rw [List.getElem?_eq_getElem (by rw [ents_len l bs hm.len]; exact hjl), List.getElem?_eq_getElem hjl] at hgj
      simp only [Option.map_some, Option.some.injEq] at hgj
      rw [hgj]
      simp only [Bool.not_eq_true', beq_eq_false_iff_ne, ne_eq]
      intro e
      have := born_inj hm hjl hil e
      omega
  simp only [execOp, ho, ha.ev hx, Instr.entry, Sem.run_bind, r1, Result.andThen_ok]
  simp [r2, hf]
end
end Go.Sl
