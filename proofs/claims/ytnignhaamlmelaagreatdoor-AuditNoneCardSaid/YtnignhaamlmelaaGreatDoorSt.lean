import Derived.Test.YtnignhaamlmelaaGreatDoorBm3
import Derived.Test.YtnignhaamlmelaaGreatDoorSl14
namespace Go.Proofs
open Go Go.Sl
set_option maxRecDepth 4000
attribute [local irreducible] Ex Run Ct Kt.body Sat Ent
/-- a store: words of a chunk, owners (0: free), words -/
structure StS where
  size : Nat
  own : List Int
  ws : List Nat
structure StOk (S : StS) : Prop where
  s1 : 1 ≤ S.size
  s2 : S.size ≤ 1024
  o1 : 1 ≤ S.own.length
  o2 : S.own.length ≤ 1024
  len : S.ws.length = S.own.length * S.size
  word : ∀ w ∈ S.ws, w < 2 ^ 64
theorem StOk.total {S : StS} (h : StOk S) : S.ws.length ≤ 1048576 := by
  rw [h.len]; exact Nat.le_trans (Nat.mul_le_mul h.o2 h.s2) (by decide)
def usedOf (S : StS) : List Bool := S.own.map (fun o => decide (o ≠ 0))
def stR (b : Nat) (S : StS) : SP := rep (fun _ : Nat × Nat × Nat => StOk S) fun g =>
  [cl b [.slice (some ⟨g.1, 0, none⟩) S.ws.length S.ws.length, it S.size, .slice (some ⟨g.2.1, 0, none⟩) S.own.length S.own.length, ptr g.2.2] 259, cl g.1 (S.ws.map wd) 29, cl g.2.1 (S.own.map it) 3, bmR g.2.2 (usedOf S)]

theorem store_Chunks (b : Nat) (S : StS) : Ct Tryz.prog 74 [ptr b] [stR b S] (det (it S.own.length) [stR b S]) := by
  refine ct_intro Tryz.func74 rfl Tryz.ntmps74 Tryz.results74 fun R => e_nf ?_
  refine e_o (by repeat (first | exact Sel.here _ _ | apply Sel.there)) fun g hok => ?_
  repeat (first | refine r_p ?_ | refine r_l ?_ | refine r_s ?_ | refine r_n fun _ => ?_ | refine r_end ?_ | refine e_r ?_ | refine e_j ?_ | refine e_true ?_ | refine e_false ?_ | refine r_tt ?_ | refine r_ff ?_ | refine e_tt ?_ | refine e_ff ?_)
  refine e_ret0 ?_
  refine n_s g hok ?_
  (refine Prm.ent ?_; repeat (first | exact Prm.refl _ | (apply Prm.take; repeat (first | exact Sel.here _ _ | apply Sel.there)) | refine Prm.drop ?_))
theorem store_Words (b : Nat) (S : StS) : Ct Tryz.prog 88 [ptr b] [stR b S] (det (it S.size) [stR b S]) := by
  refine ct_intro Tryz.func88 rfl Tryz.ntmps88 Tryz.results88 fun R => e_nf ?_
  refine e_o (by repeat (first | exact Sel.here _ _ | apply Sel.there)) fun g hok => ?_
  repeat (first | refine r_p ?_ | refine r_l ?_ | refine r_s ?_ | refine r_n fun _ => ?_ | refine r_end ?_ | refine e_r ?_ | refine e_j ?_ | refine e_true ?_ | refine e_false ?_ | refine r_tt ?_ | refine r_ff ?_ | refine e_tt ?_ | refine e_ff ?_)
  refine e_ret0 ?_
  refine n_s g hok ?_
  (refine Prm.ent ?_; repeat (first | exact Prm.refl _ | (apply Prm.take; repeat (first | exact Sel.here _ _ | apply Sel.there)) | refine Prm.drop ?_))
def stFree (S : StS) : Nat := S.own.count 0
theorem used_count (S : StS) : (usedOf S).count true + stFree S = S.own.length := by
  unfold usedOf stFree
  induction S.own with
  | nil => rfl
  | cons x l ih => by_cases h : x = 0 <;> simp [h] at ih ⊢ <;> omega
theorem store_Free (b : Nat) (S : StS) : Ct Tryz.prog 48 [ptr b] [stR b S] (det (it (stFree S)) [stR b S]) := by
  refine ct_intro Tryz.func48 rfl Tryz.ntmps48 Tryz.results48 fun R => e_nf ?_
  refine e_o (by repeat (first | exact Sel.here _ _ | apply Sel.there)) fun g hok => ?_
  have := hok.o2; have hu := used_count S
  repeat (first | refine r_p ?_ | refine r_l ?_ | refine r_s ?_ | refine r_n fun _ => ?_ | refine r_end ?_ | refine e_r ?_ | refine e_d pl48 ?_ | refine e_j ?_ | refine e_true ?_ | refine e_false ?_ | refine r_tt ?_ | refine r_ff ?_ | refine e_tt ?_ | refine e_ff ?_)
  refine r_cp (bitmap_Count g.2.2 (usedOf S)) ?_
  repeat (first | refine r_p ?_ | refine r_l ?_ | refine r_s ?_ | refine r_n fun _ => ?_ | refine r_end ?_ | refine e_r ?_ | refine e_d pl48 ?_ | refine e_j ?_ | refine e_true ?_ | refine e_false ?_ | refine r_tt ?_ | refine r_ff ?_ | refine e_tt ?_ | refine e_ff ?_)
  refine e_ret0 ?_ (hV := ?_)
  · refine n_s g hok ?_
    (refine Prm.ent ?_; repeat (first | exact Prm.refl _ | (apply Prm.take; repeat (first | exact Sel.here _ _ | apply Sel.there)) | refine Prm.drop ?_))
  · simp only [tup]; congr 1; omega
def ownOf (S : StS) (c : Int) : Int := if 0 ≤ c then S.own.getD c.toNat 0 else 0
theorem ownOf_nat (S : StS) (k : Nat) : ownOf S (k : Int) = S.own.getD k 0 := by simp [ownOf]
theorem store_Owner (b : Nat) (c : Int) (S : StS) : Ct Tryz.prog 92 [ptr b, it c] [stR b S] (det (it (ownOf S c)) [stR b S]) := by
  refine ct_intro Tryz.func92 rfl Tryz.ntmps92 Tryz.results92 fun R => e_nf ?_
  repeat (first | refine r_p ?_ | refine r_l ?_ | refine r_s ?_ | refine r_n fun _ => ?_ | refine r_end ?_ | refine e_r ?_ | refine e_j ?_ | refine e_true ?_ | refine e_false ?_ | refine r_tt ?_ | refine r_ff ?_ | refine e_tt ?_ | refine e_ff ?_)
  by_cases hc : c < 0
  · repeat (first | refine r_p ?_ | refine r_l ?_ | refine r_s ?_ | refine r_n fun _ => ?_ | refine r_end ?_ | refine e_r ?_ | refine e_j ?_ | refine e_true ?_ | refine e_false ?_ | refine r_tt ?_ | refine r_ff ?_ | refine e_tt ?_ | refine e_ff ?_)
    refine e_ret0 ?_ (hV := ?_)
    · (refine Prm.ent ?_; repeat (first | exact Prm.refl _ | (apply Prm.take; repeat (first | exact Sel.here _ _ | apply Sel.there)) | refine Prm.drop ?_))
    · simp [tup, ownOf, show ¬ 0 ≤ c by omega]
  obtain ⟨k, rfl⟩ := Int.eq_ofNat_of_zero_le (show 0 ≤ c by omega)
  repeat (first | refine r_p ?_ | refine r_l ?_ | refine r_s ?_ | refine r_n fun _ => ?_ | refine r_end ?_ | refine e_r ?_ | refine e_j ?_ | refine e_true ?_ | refine e_false ?_ | refine r_tt ?_ | refine r_ff ?_ | refine e_tt ?_ | refine e_ff ?_)
  refine r_c (store_Chunks b S) ?_
  by_cases hk : k < S.own.length
  · repeat (first | refine r_p ?_ | refine r_l ?_ | refine r_s ?_ | refine r_n fun _ => ?_ | refine r_end ?_ | refine e_r ?_ | refine e_j ?_ | refine e_true ?_ | refine e_false ?_ | refine r_tt ?_ | refine r_ff ?_ | refine e_tt ?_ | refine e_ff ?_)
    first | refine e_o (by repeat (first | exact Sel.here _ _ | apply Sel.there)) fun g hok => ?_ | refine r_o (by repeat (first | exact Sel.here _ _ | apply Sel.there)) fun g hok => ?_
    repeat (first | refine r_p ?_ | refine r_l ?_ | refine r_s ?_ | refine r_n fun _ => ?_ | refine r_end ?_ | refine e_r ?_ | refine e_j ?_ | refine e_true ?_ | refine e_false ?_ | refine r_tt ?_ | refine r_ff ?_ | refine e_tt ?_ | refine e_ff ?_)
    refine r_li (v := it (S.own[k])) ?_ ?_
    · simp [hk]
    repeat (first | refine r_p ?_ | refine r_l ?_ | refine r_s ?_ | refine r_n fun _ => ?_ | refine r_end ?_ | refine e_r ?_ | refine e_j ?_ | refine e_true ?_ | refine e_false ?_ | refine r_tt ?_ | refine r_ff ?_ | refine e_tt ?_ | refine e_ff ?_)
    refine e_ret0 ?_ (hV := ?_)
    · refine n_s g hok ?_
      (refine Prm.ent ?_; repeat (first | exact Prm.refl _ | (apply Prm.take; repeat (first | exact Sel.here _ _ | apply Sel.there)) | refine Prm.drop ?_))
    · simp [tup, ownOf, hk]
  · repeat (first | refine r_p ?_ | refine r_l ?_ | refine r_s ?_ | refine r_n fun _ => ?_ | refine r_end ?_ | refine e_r ?_ | refine e_j ?_ | refine e_true ?_ | refine e_false ?_ | refine r_tt ?_ | refine r_ff ?_ | refine e_tt ?_ | refine e_ff ?_)
    refine e_ret0 ?_ (hV := ?_)
    · (refine Prm.ent ?_; repeat (first | exact Prm.refl _ | (apply Prm.take; repeat (first | exact Sel.here _ _ | apply Sel.there)) | refine Prm.drop ?_))
    · simp [tup, ownOf, List.getElem?_eq_none (show S.own.length ≤ k by omega)]
def st0 (chunks words : Nat) : StS := ⟨words, List.replicate chunks 0, List.replicate (chunks * words) 0⟩
theorem st0_ok {c w : Nat} (h1 : 1 ≤ c) (h2 : c ≤ 1024) (h3 : 1 ≤ w) (h4 : w ≤ 1024) : StOk (st0 c w) :=
  ⟨h3, h4, by simpa [st0] using h1, by simpa [st0] using h2, by simp [st0], fun x hx => by rw [(List.mem_replicate.1 hx).2]; decide⟩
theorem store_New (c w : Nat) (h1 : 1 ≤ c) (h2 : c ≤ 1024) (h3 : 1 ≤ w) (h4 : w ≤ 1024) :
    Ct Tryz.prog 150 [it c, it w] [] (exi (fun b => .tuple #[ptr b, it 0]) (fun b => [stR b (st0 c w)]) (fun _ => True)) := by
  refine ct_intro Tryz.func150 rfl Tryz.ntmps150 Tryz.results150 fun R => e_nf ?_
  repeat (first | refine r_p ?_ | refine r_l ?_ | refine r_s ?_ | refine r_n fun _ => ?_ | refine r_end ?_ | refine e_r ?_ | refine e_d pl150 ?_ | refine e_j ?_ | refine e_true ?_ | refine e_false ?_ | refine r_tt ?_ | refine r_ff ?_ | refine e_tt ?_ | refine e_ff ?_)
  refine r_x (bitmap_New c h1 (by omega)) fun bm _ => ?_
  have hm : c * w ≤ 1048576 := Nat.le_trans (Nat.mul_le_mul h2 h4) (by decide)
  have hm' : (c : Int) * (w : Int) = ((c * w : Nat) : Int) := by rw [Int.natCast_mul]
  generalize hgm : c * w = cw at *
  repeat (first | refine r_p ?_ | refine r_l ?_ | refine r_s ?_ | refine r_n fun _ => ?_ | refine r_end ?_ | refine e_r ?_ | refine e_d pl150 ?_ | refine e_j ?_ | refine e_true ?_ | refine e_false ?_ | refine r_tt ?_ | refine r_ff ?_ | refine e_tt ?_ | refine e_ff ?_)
  refine r_mk2 (c1 := cw) (c2 := c) (fun bw bo => ?_)
  repeat (first | refine r_p ?_ | refine r_l ?_ | refine r_s ?_ | refine r_n fun _ => ?_ | refine r_end ?_ | refine e_r ?_ | refine e_d pl150 ?_ | refine e_j ?_ | refine e_true ?_ | refine e_false ?_ | refine r_tt ?_ | refine r_ff ?_ | refine e_tt ?_ | refine e_ff ?_)
  refine e_retx _ trivial ?_
  refine n_s (bw, bo, bm) (st0_ok h1 h2 h3 h4) ?_
  simp only [zeros_one, st0, usedOf, List.length_replicate, List.map_replicate, hgm]
  (refine Prm.ent ?_; repeat (first | exact Prm.refl _ | (apply Prm.take; repeat (first | exact Sel.here _ _ | apply Sel.there)) | refine Prm.drop ?_))
def stTake (S : StS) (o : Int) (n : Nat) : Option (Nat × StS) := (firstRun (usedOf S) n).map fun r => (r, { S with own := fillA S.own r n o, ws := fillA S.ws (r * S.size) (n * S.size) 0 })
def takeV : Option (Nat × StS) → Value
  | some (r, _) => .tuple #[it (r : Int), it 0]
  | none => .tuple #[it 0, it 11]
def takeS (S : StS) : Option (Nat × StS) → StS
  | some (_, T) => T
  | none => S
theorem stTake_ok {S : StS} (h : StOk S) {o : Int} {n r : Nat} {T : StS} (ht : stTake S o n = some (r, T)) : StOk T := by
  unfold stTake at ht
  cases hf : firstRun (usedOf S) n with
  | none => rw [hf] at ht; cases ht
  | some r' =>
    rw [hf] at ht
    cases ht
    exact ⟨h.s1, h.s2, by simpa [fillA_len] using h.o1, by simpa [fillA_len] using h.o2, by simpa [fillA_len] using h.len, fun w hw => (fillA_mem _ hw).elim (fun e => by subst e; decide) (h.word w)⟩
theorem used_fill (S : StS) (r n : Nat) (o : Int) (h : o ≠ 0) : (fillA S.own r n o).map (fun o => decide (o ≠ 0)) = fillA (usedOf S) r n true := by
  rw [fillA_map]; simp [usedOf, h]

theorem store_TakeRun (b n : Nat) (o : Int) (S : StS) (ho : 1 ≤ o) (hn : 1 ≤ n) (hn2 : n ≤ 1048576) :
    Ct Tryz.prog 235 [ptr b, it o, it n] [stR b S] (det (takeV (stTake S o n)) [stR b (takeS S (stTake S o n))]) := by
  refine ct_intro Tryz.func235 rfl Tryz.ntmps235 Tryz.results235 fun R => e_nf ?_
  refine e_o (by repeat (first | exact Sel.here _ _ | apply Sel.there)) fun g hok => ?_
  repeat (first | refine r_p ?_ | refine r_l ?_ | refine r_s ?_ | refine r_n fun _ => ?_ | refine r_end ?_ | refine e_r ?_ | refine e_d pl235 ?_ | refine e_j ?_ | refine e_true ?_ | refine e_false ?_ | refine r_tt ?_ | refine r_ff ?_ | refine e_tt ?_ | refine e_ff ?_)
  refine r_c (bitmap_run g.2.2 n (usedOf S) hn hn2) ?_
  cases hf : firstRun (usedOf S) n with
  | none =>
    simp only [runV]
    repeat (first | refine r_p ?_ | refine r_l ?_ | refine r_s ?_ | refine r_n fun _ => ?_ | refine r_end ?_ | refine e_r ?_ | refine e_d pl235 ?_ | refine e_j ?_ | refine e_true ?_ | refine e_false ?_ | refine r_tt ?_ | refine r_ff ?_ | refine e_tt ?_ | refine e_ff ?_)
    have e1 : stTake S o n = none := by simp [stTake, hf]
    rw [e1]
    refine e_ret0 ?_
    refine n_s g hok ?_
    (refine Prm.ent ?_; repeat (first | exact Prm.refl _ | (apply Prm.take; repeat (first | exact Sel.here _ _ | apply Sel.there)) | refine Prm.drop ?_))
  | some r =>
    obtain ⟨h1, h2, h3⟩ := firstRun_le hf
    have hlen : (usedOf S).length = S.own.length := by simp [usedOf]
    have := hok.o2
    simp only [runV]
    repeat (first | refine r_p ?_ | refine r_l ?_ | refine r_s ?_ | refine r_n fun _ => ?_ | refine r_end ?_ | refine e_r ?_ | refine e_d pl235 ?_ | refine e_j ?_ | refine e_true ?_ | refine e_false ?_ | refine r_tt ?_ | refine r_ff ?_ | refine e_tt ?_ | refine e_ff ?_)
    refine r_c (bitmap_Fill g.2.2 r n (usedOf S) true h1) ?_
    repeat (first | refine r_p ?_ | refine r_l ?_ | refine r_s ?_ | refine r_n fun _ => ?_ | refine r_end ?_ | refine e_r ?_ | refine e_d pl235 ?_ | refine e_j ?_ | refine e_true ?_ | refine e_false ?_ | refine r_tt ?_ | refine r_ff ?_ | refine e_tt ?_ | refine e_ff ?_)
    refine e_loop (fun j => j ≤ n) (fun j => ⟨74, [(10, it ((r + j : Nat) : Int)), (0, ptr b), (1, it o), (2, it n), (8, it r)], []⟩)
      (fun j => cl b [.slice (some ⟨g.1, 0, none⟩) S.ws.length S.ws.length, it S.size, .slice (some ⟨g.2.1, 0, none⟩) S.own.length S.own.length, ptr g.2.2] 259 :: cl g.1 (S.ws.map wd) 29 :: cl g.2.1 ((fillA S.own r j o).map it) 3 :: bmR g.2.2 (fillB (usedOf S) r n true) :: R) (fun j => n - j) 0 (Nat.zero_le _) (by repeat (first | exact le_nil | refine le_cons ?_)) (by (refine Prm.ent ?_; repeat (first | exact Prm.refl _ | (apply Prm.take; repeat (first | exact Sel.here _ _ | apply Sel.there)) | refine Prm.drop ?_))) fun j hj => ?_
    repeat (first | refine r_p ?_ | refine r_l ?_ | refine r_s ?_ | refine r_n fun _ => ?_ | refine r_end ?_ | refine e_r ?_ | refine e_d pl235 ?_ | refine e_j ?_ | refine e_true ?_ | refine e_false ?_ | refine r_tt ?_ | refine r_ff ?_ | refine e_tt ?_ | refine e_ff ?_)
    refine e_if (fun h => ?_) (fun h => ?_)
    · repeat (first | refine r_p ?_ | refine r_l ?_ | refine r_s ?_ | refine r_n fun _ => ?_ | refine r_end ?_ | refine e_r ?_ | refine e_d pl235 ?_ | refine e_j ?_ | refine e_true ?_ | refine e_false ?_ | refine r_tt ?_ | refine r_ff ?_ | refine e_tt ?_ | refine e_ff ?_)
      refine r_si ?_ ?_
      · simp [fillA_len]; omega
      rw [← List.map_set]
      repeat (first | refine r_p ?_ | refine r_l ?_ | refine r_s ?_ | refine r_n fun _ => ?_ | refine r_end ?_ | refine e_r ?_ | refine e_d pl235 ?_ | refine e_j ?_ | refine e_true ?_ | refine e_false ?_ | refine r_tt ?_ | refine r_ff ?_ | refine e_tt ?_ | refine e_ff ?_)
      refine e_next (j + 1) (by omega) (by omega) (by repeat (first | exact le_nil | refine le_cons ?_)) ?_
      (refine Prm.ent ?_; repeat (first | exact Prm.refl _ | (apply Prm.take; repeat (first | exact Sel.here _ _ | apply Sel.there)) | refine Prm.drop ?_))
    · have e1 : j = n := by omega
      subst e1
      have hT : stTake S o j = some (r, { S with own := fillA S.own r j o, ws := fillA S.ws (r * S.size) (j * S.size) 0 }) := by simp [stTake, hf]
      have hTok := stTake_ok hok hT
      have hm1 : r * S.size ≤ 1048576 := Nat.le_trans (Nat.mul_le_mul (show r ≤ 1024 by omega) hok.s2) (by decide)
      have hm2 : (r + j) * S.size ≤ S.ws.length := by rw [hok.len]; exact Nat.mul_le_mul_right _ (by omega)
      have ht := hok.total
      have e2 : (r + j) * S.size = r * S.size + j * S.size := Nat.add_mul _ _ _
      have e3 : (r : Int) * (S.size : Int) = ((r * S.size : Nat) : Int) := by rw [Int.natCast_mul]
      have e4 : ((r : Int) + (j : Int)) * (S.size : Int) = (((r + j) * S.size : Nat) : Int) := by rw [Int.natCast_mul]; rfl
      rw [hT]
      generalize hg1 : r * S.size = x1 at *
      generalize hg2 : j * S.size = x2 at *
      generalize hg3 : (r + j) * S.size = x3 at *
      repeat (first | refine r_p ?_ | refine r_l ?_ | refine r_s ?_ | refine r_n fun _ => ?_ | refine r_end ?_ | refine e_r ?_ | refine e_d pl235 ?_ | refine e_j ?_ | refine e_true ?_ | refine e_false ?_ | refine r_tt ?_ | refine r_ff ?_ | refine e_tt ?_ | refine e_ff ?_)
      refine r_cut x1 x3 ?_
      repeat (first | refine r_p ?_ | refine r_l ?_ | refine r_s ?_ | refine r_n fun _ => ?_ | refine r_end ?_ | refine e_r ?_ | refine e_d pl235 ?_ | refine e_j ?_ | refine e_true ?_ | refine e_false ?_ | refine r_tt ?_ | refine r_ff ?_ | refine e_tt ?_ | refine e_ff ?_)
      refine r_clear (z := wd 0) ?_ ?_
      · simp; split <;> omega
      repeat (first | refine r_p ?_ | refine r_l ?_ | refine r_s ?_ | refine r_n fun _ => ?_ | refine r_end ?_ | refine e_r ?_ | refine e_d pl235 ?_ | refine e_j ?_ | refine e_true ?_ | refine e_false ?_ | refine r_tt ?_ | refine r_ff ?_ | refine e_tt ?_ | refine e_ff ?_)
      refine e_ret0 ?_
      simp only [takeS]
      refine n_s g hTok ?_
      have e5 : (if S.ws.length = x1 then 0 else 0 + x1 * 1) = x1 := by
        split
        · have : x2 = 0 := by omega
          have := Nat.mul_pos hn hok.s1
          omega
        · omega
      rw [e5]
      have e6 : (fillA S.ws x1 x2 0).map wd = (S.ws.map wd).take x1 ++ List.replicate (x3 - x1) (wd 0) ++ (S.ws.map wd).drop (x1 + (x3 - x1)) := by
        rw [fillA_eq _ _ _ _ (by omega), show x3 - x1 = x2 by omega]
        simp
      simp only [fillA_len, usedOf, used_fill S r j o (by omega)] at *
      rw [e6]
      (refine Prm.ent ?_; repeat (first | exact Prm.refl _ | (apply Prm.take; repeat (first | exact Sel.here _ _ | apply Sel.there)) | refine Prm.drop ?_))

def okChunk (S : StS) (c : Nat) : Prop := S.own.getD c 0 ≠ 0
theorem okChunk.lt {S : StS} {c : Nat} (h : okChunk S c) : c < S.own.length := by
  apply Classical.byContradiction
  intro hn
  exact h (by simp [List.getElem?_eq_none (show S.own.length ≤ c by omega)])
theorem store_check (b c : Nat) (S : StS) (h : okChunk S c) : Ct Tryz.prog 325 [ptr b, it c] [stR b S] (det (it 0) [stR b S]) := by
  have hlt := h.lt
  have hne : S.own[c] ≠ 0 := by simpa [okChunk, hlt] using h
  refine ct_intro Tryz.func325 rfl Tryz.ntmps325 Tryz.results325 fun R => e_nf ?_
  refine e_o (by repeat (first | exact Sel.here _ _ | apply Sel.there)) fun g hok => ?_
  have := hok.o2
  repeat (first | refine r_p ?_ | refine r_l ?_ | refine r_s ?_ | refine r_n fun _ => ?_ | refine r_end ?_ | refine e_r ?_ | refine e_j ?_ | refine e_true ?_ | refine e_false ?_ | refine r_tt ?_ | refine r_ff ?_ | refine e_tt ?_ | refine e_ff ?_)
  refine r_li (v := it (S.own[c])) ?_ ?_
  · simp [hlt]
  repeat (first | refine r_p ?_ | refine r_l ?_ | refine r_s ?_ | refine r_n fun _ => ?_ | refine r_end ?_ | refine e_r ?_ | refine e_j ?_ | refine e_true ?_ | refine e_false ?_ | refine r_tt ?_ | refine r_ff ?_ | refine e_tt ?_ | refine e_ff ?_)
  refine e_ret0 ?_
  refine n_s g hok ?_
  (refine Prm.ent ?_; repeat (first | exact Prm.refl _ | (apply Prm.take; repeat (first | exact Sel.here _ _ | apply Sel.there)) | refine Prm.drop ?_))
def stRel (S : StS) (c : Nat) : StS := { S with own := S.own.set c 0 }
def stGive (S : StS) (c : Nat) (o : Int) : StS := { S with own := S.own.set c o }
theorem stOwn_ok {S : StS} (h : StOk S) (c : Nat) (o : Int) : StOk { S with own := S.own.set c o } := ⟨h.s1, h.s2, by simpa using h.o1, by simpa using h.o2, by simpa using h.len, h.word⟩
theorem store_Release (b c : Nat) (S : StS) (h : okChunk S c) : Ct Tryz.prog 269 [ptr b, it c] [stR b S] (det (it 0) [stR b (stRel S c)]) := by
  have hlt := h.lt
  refine ct_intro Tryz.func269 rfl Tryz.ntmps269 Tryz.results269 fun R => e_nf ?_
  repeat (first | refine r_p ?_ | refine r_l ?_ | refine r_s ?_ | refine r_n fun _ => ?_ | refine r_end ?_ | refine e_r ?_ | refine e_j ?_ | refine e_true ?_ | refine e_false ?_ | refine r_tt ?_ | refine r_ff ?_ | refine e_tt ?_ | refine e_ff ?_)
  refine r_c (store_check b c S h) ?_
  repeat (first | refine r_p ?_ | refine r_l ?_ | refine r_s ?_ | refine r_n fun _ => ?_ | refine r_end ?_ | refine e_r ?_ | refine e_j ?_ | refine e_true ?_ | refine e_false ?_ | refine r_tt ?_ | refine r_ff ?_ | refine e_tt ?_ | refine e_ff ?_)
  first | refine e_o (by repeat (first | exact Sel.here _ _ | apply Sel.there)) fun g hok => ?_ | refine r_o (by repeat (first | exact Sel.here _ _ | apply Sel.there)) fun g hok => ?_
  have := hok.o2
  repeat (first | refine r_p ?_ | refine r_l ?_ | refine r_s ?_ | refine r_n fun _ => ?_ | refine r_end ?_ | refine e_r ?_ | refine e_j ?_ | refine e_true ?_ | refine e_false ?_ | refine r_tt ?_ | refine r_ff ?_ | refine e_tt ?_ | refine e_ff ?_)
  refine r_si ?_ ?_
  · simpa using hlt
  rw [← List.map_set]
  repeat (first | refine r_p ?_ | refine r_l ?_ | refine r_s ?_ | refine r_n fun _ => ?_ | refine r_end ?_ | refine e_r ?_ | refine e_j ?_ | refine e_true ?_ | refine e_false ?_ | refine r_tt ?_ | refine r_ff ?_ | refine e_tt ?_ | refine e_ff ?_)
  refine r_c (bitmap_Set g.2.2 c (usedOf S) false (by simpa [usedOf] using hlt)) ?_
  repeat (first | refine r_p ?_ | refine r_l ?_ | refine r_s ?_ | refine r_n fun _ => ?_ | refine r_end ?_ | refine e_r ?_ | refine e_j ?_ | refine e_true ?_ | refine e_false ?_ | refine r_tt ?_ | refine r_ff ?_ | refine e_tt ?_ | refine e_ff ?_)
  refine e_ret0 ?_
  refine n_s g (stOwn_ok hok c 0) ?_
  have e : usedOf (stRel S c) = (usedOf S).set c false := by simp [usedOf, stRel, List.map_set]
  simp only [stRel, List.length_set] at e ⊢
  rw [e]
  (refine Prm.ent ?_; repeat (first | exact Prm.refl _ | (apply Prm.take; repeat (first | exact Sel.here _ _ | apply Sel.there)) | refine Prm.drop ?_))
theorem store_Give (b c : Nat) (o : Int) (S : StS) (h : okChunk S c) (ho : 1 ≤ o) : Ct Tryz.prog 315 [ptr b, it c, it o] [stR b S] (det (it 0) [stR b (stGive S c o)]) := by
  have hlt := h.lt
  refine ct_intro Tryz.func315 rfl Tryz.ntmps315 Tryz.results315 fun R => e_nf ?_
  repeat (first | refine r_p ?_ | refine r_l ?_ | refine r_s ?_ | refine r_n fun _ => ?_ | refine r_end ?_ | refine e_r ?_ | refine e_j ?_ | refine e_true ?_ | refine e_false ?_ | refine r_tt ?_ | refine r_ff ?_ | refine e_tt ?_ | refine e_ff ?_)
  refine r_c (store_check b c S h) ?_
  repeat (first | refine r_p ?_ | refine r_l ?_ | refine r_s ?_ | refine r_n fun _ => ?_ | refine r_end ?_ | refine e_r ?_ | refine e_j ?_ | refine e_true ?_ | refine e_false ?_ | refine r_tt ?_ | refine r_ff ?_ | refine e_tt ?_ | refine e_ff ?_)
  first | refine e_o (by repeat (first | exact Sel.here _ _ | apply Sel.there)) fun g hok => ?_ | refine r_o (by repeat (first | exact Sel.here _ _ | apply Sel.there)) fun g hok => ?_
  have := hok.o2
  repeat (first | refine r_p ?_ | refine r_l ?_ | refine r_s ?_ | refine r_n fun _ => ?_ | refine r_end ?_ | refine e_r ?_ | refine e_j ?_ | refine e_true ?_ | refine e_false ?_ | refine r_tt ?_ | refine r_ff ?_ | refine e_tt ?_ | refine e_ff ?_)
  refine r_si ?_ ?_
  · simpa using hlt
  rw [← List.map_set]
  repeat (first | refine r_p ?_ | refine r_l ?_ | refine r_s ?_ | refine r_n fun _ => ?_ | refine r_end ?_ | refine e_r ?_ | refine e_j ?_ | refine e_true ?_ | refine e_false ?_ | refine r_tt ?_ | refine r_ff ?_ | refine e_tt ?_ | refine e_ff ?_)
  refine e_ret0 ?_
  refine n_s g (stOwn_ok hok c o) ?_
  have e : usedOf (stGive S c o) = usedOf S := by
    apply List.ext_getElem?
    intro i
    simp only [usedOf, stGive, List.map_set, List.getElem?_set]
    by_cases hi : c = i
    · subst hi
      have hne : S.own[c] ≠ 0 := by simpa [okChunk, hlt] using h
      simp [hlt, hne]; omega
    · simp [hi]
  simp only [stGive, List.length_set] at e ⊢
  rw [e]
  (refine Prm.ent ?_; repeat (first | exact Prm.refl _ | (apply Prm.take; repeat (first | exact Sel.here _ _ | apply Sel.there)) | refine Prm.drop ?_))

/-- n words from a on are there, and somebody's -/
def Owned (S : StS) (a n : Nat) : Prop := a + n ≤ S.ws.length ∧ ∀ c, a / S.size ≤ c → c ≤ (a + n - 1) / S.size → okChunk S c
theorem store_at (b a n : Nat) (S : StS) (hn : 1 ≤ n) (h : Owned S a n) : Ct Tryz.prog 306 [ptr b, it a, it n] [stR b S] (det (it 0) [stR b S]) := by
  refine ct_intro Tryz.func306 rfl Tryz.ntmps306 Tryz.results306 fun R => e_nf ?_
  refine e_o (by repeat (first | exact Sel.here _ _ | apply Sel.there)) fun g hok => ?_
  have ht := hok.total; have h1 := h.1; have hs := hok.s1
  repeat (first | refine r_p ?_ | refine r_l ?_ | refine r_s ?_ | refine r_n fun _ => ?_ | refine r_end ?_ | refine e_r ?_ | refine e_j ?_ | refine e_true ?_ | refine e_false ?_ | refine r_tt ?_ | refine r_ff ?_ | refine e_tt ?_ | refine e_ff ?_)
  refine e_loop (fun c => a / S.size ≤ c ∧ c ≤ (a + n - 1) / S.size + 1) (fun c => ⟨63, [(7, it (c : Nat)), (0, ptr b), (1, it a), (2, it n)], []⟩)
      (fun _ => cl b [.slice (some ⟨g.1, 0, none⟩) S.ws.length S.ws.length, it S.size, .slice (some ⟨g.2.1, 0, none⟩) S.own.length S.own.length, ptr g.2.2] 259 :: cl g.1 (S.ws.map wd) 29 :: cl g.2.1 (S.own.map it) 3 :: bmR g.2.2 (usedOf S) :: R) (fun c => (a + n - 1) / S.size + 1 - c) (a / S.size) ⟨Nat.le_refl _, Nat.le_succ_of_le (Nat.div_le_div_right (by omega))⟩ (by repeat (first | exact le_nil | refine le_cons ?_)) (by (refine Prm.ent ?_; repeat (first | exact Prm.refl _ | (apply Prm.take; repeat (first | exact Sel.here _ _ | apply Sel.there)) | refine Prm.drop ?_))) fun c hc => ?_
  obtain ⟨hc1, hc2⟩ := hc
  have hd : (a + n - 1) / S.size < 1048576 := Nat.lt_of_le_of_lt (Nat.div_le_self _ _) (by omega)
  repeat (first | refine r_p ?_ | refine r_l ?_ | refine r_s ?_ | refine r_n fun _ => ?_ | refine r_end ?_ | refine e_r ?_ | refine e_j ?_ | refine e_true ?_ | refine e_false ?_ | refine r_tt ?_ | refine r_ff ?_ | refine e_tt ?_ | refine e_ff ?_)
  rw [show (a : Int) + n - 1 = ((a + n - 1 : Nat) : Int) by omega]
  repeat (first | refine r_p ?_ | refine r_l ?_ | refine r_s ?_ | refine r_n fun _ => ?_ | refine r_end ?_ | refine e_r ?_ | refine e_j ?_ | refine e_true ?_ | refine e_false ?_ | refine r_tt ?_ | refine r_ff ?_ | refine e_tt ?_ | refine e_ff ?_)
  refine e_if (fun h3 => ?_) (fun h3 => ?_)
  · have hok1 : okChunk S c := h.2 c hc1 (by omega)
    have hlt := hok1.lt
    have hne : S.own[c] ≠ 0 := by simpa [okChunk, hlt] using hok1
    repeat (first | refine r_p ?_ | refine r_l ?_ | refine r_s ?_ | refine r_n fun _ => ?_ | refine r_end ?_ | refine e_r ?_ | refine e_j ?_ | refine e_true ?_ | refine e_false ?_ | refine r_tt ?_ | refine r_ff ?_ | refine e_tt ?_ | refine e_ff ?_)
    refine r_li (v := it (S.own[c])) ?_ ?_
    · simp [hlt]
    repeat (first | refine r_p ?_ | refine r_l ?_ | refine r_s ?_ | refine r_n fun _ => ?_ | refine r_end ?_ | refine e_r ?_ | refine e_j ?_ | refine e_true ?_ | refine e_false ?_ | refine r_tt ?_ | refine r_ff ?_ | refine e_tt ?_ | refine e_ff ?_)
    refine e_next (c + 1) ⟨by omega, by omega⟩ (by omega) (by repeat (first | exact le_nil | refine le_cons ?_)) ?_
    (refine Prm.ent ?_; repeat (first | exact Prm.refl _ | (apply Prm.take; repeat (first | exact Sel.here _ _ | apply Sel.there)) | refine Prm.drop ?_))
  · repeat (first | refine r_p ?_ | refine r_l ?_ | refine r_s ?_ | refine r_n fun _ => ?_ | refine r_end ?_ | refine e_r ?_ | refine e_j ?_ | refine e_true ?_ | refine e_false ?_ | refine r_tt ?_ | refine r_ff ?_ | refine e_tt ?_ | refine e_ff ?_)
    refine e_ret0 ?_
    refine n_s g hok ?_
    (refine Prm.ent ?_; repeat (first | exact Prm.refl _ | (apply Prm.take; repeat (first | exact Sel.here _ _ | apply Sel.there)) | refine Prm.drop ?_))
def rdW (S : StS) (a : Nat) : Nat := S.ws.getD a 0
theorem store_Read (b a : Nat) (S : StS) (h : Owned S a 1) : Ct Tryz.prog 244 [ptr b, it a] [stR b S] (det (.tuple #[wd (rdW S a), it 0]) [stR b S]) := by
  have h1 := h.1
  refine ct_intro Tryz.func244 rfl Tryz.ntmps244 Tryz.results244 fun R => e_nf ?_
  repeat (first | refine r_p ?_ | refine r_l ?_ | refine r_s ?_ | refine r_n fun _ => ?_ | refine r_end ?_ | refine e_r ?_ | refine e_j ?_ | refine e_true ?_ | refine e_false ?_ | refine r_tt ?_ | refine r_ff ?_ | refine e_tt ?_ | refine e_ff ?_)
  refine r_c (store_at b a 1 S (Nat.le_refl _) h) ?_
  repeat (first | refine r_p ?_ | refine r_l ?_ | refine r_s ?_ | refine r_n fun _ => ?_ | refine r_end ?_ | refine e_r ?_ | refine e_j ?_ | refine e_true ?_ | refine e_false ?_ | refine r_tt ?_ | refine r_ff ?_ | refine e_tt ?_ | refine e_ff ?_)
  first | refine e_o (by repeat (first | exact Sel.here _ _ | apply Sel.there)) fun g hok => ?_ | refine r_o (by repeat (first | exact Sel.here _ _ | apply Sel.there)) fun g hok => ?_
  have := hok.total
  repeat (first | refine r_p ?_ | refine r_l ?_ | refine r_s ?_ | refine r_n fun _ => ?_ | refine r_end ?_ | refine e_r ?_ | refine e_j ?_ | refine e_true ?_ | refine e_false ?_ | refine r_tt ?_ | refine r_ff ?_ | refine e_tt ?_ | refine e_ff ?_)
  refine r_li (v := wd (rdW S a)) ?_ ?_
  · simp [rdW, show a < S.ws.length by omega]
  repeat (first | refine r_p ?_ | refine r_l ?_ | refine r_s ?_ | refine r_n fun _ => ?_ | refine r_end ?_ | refine e_r ?_ | refine e_j ?_ | refine e_true ?_ | refine e_false ?_ | refine r_tt ?_ | refine r_ff ?_ | refine e_tt ?_ | refine e_ff ?_)
  refine e_ret0 ?_
  refine n_s g hok ?_
  (refine Prm.ent ?_; repeat (first | exact Prm.refl _ | (apply Prm.take; repeat (first | exact Sel.here _ _ | apply Sel.there)) | refine Prm.drop ?_))
def stSet (S : StS) (a x : Nat) : StS := { S with ws := S.ws.set a x }
theorem stSet_ok {S : StS} (h : StOk S) {a x : Nat} (hx : x < 2 ^ 64) : StOk (stSet S a x) := ⟨h.s1, h.s2, h.o1, h.o2, by simpa [stSet] using h.len, fun w hw => (List.mem_or_eq_of_mem_set hw).elim (h.word w) fun e => by subst e; exact hx⟩
theorem store_Write (b a x : Nat) (S : StS) (h : Owned S a 1) (hx : x < 2 ^ 64) : Ct Tryz.prog 241 [ptr b, it a, wd x] [stR b S] (det (it 0) [stR b (stSet S a x)]) := by
  have h1 := h.1
  refine ct_intro Tryz.func241 rfl Tryz.ntmps241 Tryz.results241 fun R => e_nf ?_
  repeat (first | refine r_p ?_ | refine r_l ?_ | refine r_s ?_ | refine r_n fun _ => ?_ | refine r_end ?_ | refine e_r ?_ | refine e_j ?_ | refine e_true ?_ | refine e_false ?_ | refine r_tt ?_ | refine r_ff ?_ | refine e_tt ?_ | refine e_ff ?_)
  refine r_c (store_at b a 1 S (Nat.le_refl _) h) ?_
  repeat (first | refine r_p ?_ | refine r_l ?_ | refine r_s ?_ | refine r_n fun _ => ?_ | refine r_end ?_ | refine e_r ?_ | refine e_j ?_ | refine e_true ?_ | refine e_false ?_ | refine r_tt ?_ | refine r_ff ?_ | refine e_tt ?_ | refine e_ff ?_)
  first | refine e_o (by repeat (first | exact Sel.here _ _ | apply Sel.there)) fun g hok => ?_ | refine r_o (by repeat (first | exact Sel.here _ _ | apply Sel.there)) fun g hok => ?_
  have := hok.total
  repeat (first | refine r_p ?_ | refine r_l ?_ | refine r_s ?_ | refine r_n fun _ => ?_ | refine r_end ?_ | refine e_r ?_ | refine e_j ?_ | refine e_true ?_ | refine e_false ?_ | refine r_tt ?_ | refine r_ff ?_ | refine e_tt ?_ | refine e_ff ?_)
  refine r_si ?_ ?_
  · simp; omega
  rw [← List.map_set]
  repeat (first | refine r_p ?_ | refine r_l ?_ | refine r_s ?_ | refine r_n fun _ => ?_ | refine r_end ?_ | refine e_r ?_ | refine e_j ?_ | refine e_true ?_ | refine e_false ?_ | refine r_tt ?_ | refine r_ff ?_ | refine e_tt ?_ | refine e_ff ?_)
  refine e_ret0 ?_
  refine n_s g (stSet_ok hok hx) ?_
  simp only [stSet, List.length_set]
  (refine Prm.ent ?_; repeat (first | exact Prm.refl _ | (apply Prm.take; repeat (first | exact Sel.here _ _ | apply Sel.there)) | refine Prm.drop ?_))
def stCopy (S : StS) (to fr n : Nat) : StS := { S with ws := S.ws.take to ++ (S.ws.drop fr).take n ++ S.ws.drop (to + n) }
theorem stCopy_ok {S : StS} (h : StOk S) {to fr n : Nat} (h1 : to + n ≤ S.ws.length) (h2 : fr + n ≤ S.ws.length) : StOk (stCopy S to fr n) :=
  ⟨h.s1, h.s2, h.o1, h.o2, (by have := h.len; simp [stCopy]; omega), fun w hw => by
    simp only [stCopy, List.mem_append] at hw
    rcases hw with (hw | hw) | hw
    · exact h.word w (List.mem_of_mem_take hw)
    · exact h.word w (List.mem_of_mem_drop (List.mem_of_mem_take hw))
    · exact h.word w (List.mem_of_mem_drop hw)⟩
theorem store_Copy (b to fr n : Nat) (S : StS) (hn : 1 ≤ n) (h1 : Owned S to n) (h2 : Owned S fr n) : Ct Tryz.prog 240 [ptr b, it to, it fr, it n] [stR b S] (det (it 0) [stR b (stCopy S to fr n)]) := by
  have hh1 := h1.1; have hh2 := h2.1
  refine ct_intro Tryz.func240 rfl Tryz.ntmps240 Tryz.results240 fun R => e_nf ?_
  repeat (first | refine r_p ?_ | refine r_l ?_ | refine r_s ?_ | refine r_n fun _ => ?_ | refine r_end ?_ | refine e_r ?_ | refine e_d pl240 ?_ | refine e_j ?_ | refine e_true ?_ | refine e_false ?_ | refine r_tt ?_ | refine r_ff ?_ | refine e_tt ?_ | refine e_ff ?_)
  refine r_c (store_at b to n S hn h1) ?_
  repeat (first | refine r_p ?_ | refine r_l ?_ | refine r_s ?_ | refine r_n fun _ => ?_ | refine r_end ?_ | refine e_r ?_ | refine e_d pl240 ?_ | refine e_j ?_ | refine e_true ?_ | refine e_false ?_ | refine r_tt ?_ | refine r_ff ?_ | refine e_tt ?_ | refine e_ff ?_)
  refine r_c (store_at b fr n S hn h2) ?_
  repeat (first | refine r_p ?_ | refine r_l ?_ | refine r_s ?_ | refine r_n fun _ => ?_ | refine r_end ?_ | refine e_r ?_ | refine e_d pl240 ?_ | refine e_j ?_ | refine e_true ?_ | refine e_false ?_ | refine r_tt ?_ | refine r_ff ?_ | refine e_tt ?_ | refine e_ff ?_)
  first | refine e_o (by repeat (first | exact Sel.here _ _ | apply Sel.there)) fun g hok => ?_ | refine r_o (by repeat (first | exact Sel.here _ _ | apply Sel.there)) fun g hok => ?_
  have := hok.total
  repeat (first | refine r_p ?_ | refine r_l ?_ | refine r_s ?_ | refine r_n fun _ => ?_ | refine r_end ?_ | refine e_r ?_ | refine e_d pl240 ?_ | refine e_j ?_ | refine e_true ?_ | refine e_false ?_ | refine r_tt ?_ | refine r_ff ?_ | refine e_tt ?_ | refine e_ff ?_)
  refine r_cu to (to + n) to n ?_
  repeat (first | refine r_p ?_ | refine r_l ?_ | refine r_s ?_ | refine r_n fun _ => ?_ | refine r_end ?_ | refine e_r ?_ | refine e_d pl240 ?_ | refine e_j ?_ | refine e_true ?_ | refine e_false ?_ | refine r_tt ?_ | refine r_ff ?_ | refine e_tt ?_ | refine e_ff ?_)
  refine r_cu fr (fr + n) fr n ?_
  repeat (first | refine r_p ?_ | refine r_l ?_ | refine r_s ?_ | refine r_n fun _ => ?_ | refine r_end ?_ | refine e_r ?_ | refine e_d pl240 ?_ | refine e_j ?_ | refine e_true ?_ | refine e_false ?_ | refine r_tt ?_ | refine r_ff ?_ | refine e_tt ?_ | refine e_ff ?_)
  have e0 : ((S.ws.drop fr).take n).length = n := by simp; omega
  refine r_copy (ys := ((S.ws.drop fr).take n).map wd) ?_ ?_ ?_ ?_ ?_
  · intro w hs j u hj
    have hget := Tk.get (b := g.1) (cs := S.ws.map wd) (by infer_instance) hs
    rw [add_mk, cell_of hget, ← hj]
    have hj := (List.getElem?_eq_some_iff.1 hj).1
    rw [List.length_map, e0] at hj
    simp only [List.getElem?_map, List.getElem?_take_of_lt hj, List.getElem?_drop]
  · simp; omega
  · simp; omega
  · intro u hu
    obtain ⟨x, _, rfl⟩ := List.mem_map.1 hu
    rfl
  repeat (first | refine r_p ?_ | refine r_l ?_ | refine r_s ?_ | refine r_n fun _ => ?_ | refine r_end ?_ | refine e_r ?_ | refine e_d pl240 ?_ | refine e_j ?_ | refine e_true ?_ | refine e_false ?_ | refine r_tt ?_ | refine r_ff ?_ | refine e_tt ?_ | refine e_ff ?_)
  refine e_ret0 ?_
  refine n_s g (stCopy_ok hok hh1 hh2) ?_
  have e1 : (stCopy S to fr n).ws.length = S.ws.length := by simp [stCopy]; omega
  rw [e1]
  have e2 : (stCopy S to fr n).ws.map wd = (S.ws.map wd).take to ++ ((S.ws.drop fr).take n).map wd ++ (S.ws.map wd).drop (to + (((S.ws.drop fr).take n).map wd).length) := by
    rw [List.length_map, e0]; simp [stCopy]
  rw [e2]
  (refine Prm.ent ?_; repeat (first | exact Prm.refl _ | (apply Prm.take; repeat (first | exact Sel.here _ _ | apply Sel.there)) | refine Prm.drop ?_))
