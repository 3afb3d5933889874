import Derived.Test.YtnignhaamlmelaaGreatDoorTz
namespace Go.Proofs
open Go Go.Sl
set_option maxRecDepth 4000
attribute [local irreducible] Ex Run Ct Kt.body Sat Ent
structure BmOk (bits : List Bool) (ws : List Nat) : Prop where
  len : ws.length = (bits.length + 63) / 64
  pos : 1 ≤ bits.length
  most : bits.length ≤ 1048576
  word : ∀ (i w : Nat), ws[i]? = some w → w < 2 ^ 64
  bit : ∀ (i w : Nat), ws[i]? = some w → ∀ j, j < 64 → w.testBit j = bits.getD (64 * i + j) false

/-- a bitmap -/
def bmR (b : Nat) (bits : List Bool) : SP := rep (fun g : Nat × List Nat => BmOk bits g.2) fun g =>
  [cl b [it bits.length, .slice (some ⟨g.1, 0, none⟩) g.2.length g.2.length, it (bits.count true)] 359, cl g.1 (g.2.map wd) 29]

theorem bitmap_Len (b : Nat) (bits : List Bool) :
    Ct Tryz.prog 302 [ptr b] [bmR b bits] (det (it bits.length) [bmR b bits]) := by
  refine ct_intro Tryz.func302 rfl Tryz.ntmps302 Tryz.results302 fun R => e_nf ?_
  refine e_o (by repeat (first | exact Sel.here _ _ | apply Sel.there)) fun g hok => ?_
  repeat (first | refine r_p ?_ | refine r_l ?_ | refine r_s ?_ | refine r_n fun _ => ?_ | refine r_end ?_ | refine e_r ?_ | refine e_j ?_ | refine e_true ?_ | refine e_false ?_ | refine r_tt ?_ | refine r_ff ?_ | refine e_tt ?_ | refine e_ff ?_)
  refine e_ret0 ?_
  refine n_s g hok ?_
  (refine Prm.ent ?_; repeat (first | exact Prm.refl _ | (apply Prm.take; repeat (first | exact Sel.here _ _ | apply Sel.there)) | refine Prm.drop ?_))

theorem bitmap_Count (b : Nat) (bits : List Bool) :
    Ct Tryz.prog 158 [ptr b] [bmR b bits] (det (it (bits.count true)) [bmR b bits]) := by
  refine ct_intro Tryz.func158 rfl Tryz.ntmps158 Tryz.results158 fun R => e_nf ?_
  refine e_o (by repeat (first | exact Sel.here _ _ | apply Sel.there)) fun g hok => ?_
  repeat (first | refine r_p ?_ | refine r_l ?_ | refine r_s ?_ | refine r_n fun _ => ?_ | refine r_end ?_ | refine e_r ?_ | refine e_j ?_ | refine e_true ?_ | refine e_false ?_ | refine r_tt ?_ | refine r_ff ?_ | refine e_tt ?_ | refine e_ff ?_)
  refine e_ret0 ?_
  refine n_s g hok ?_
  (refine Prm.ent ?_; repeat (first | exact Prm.refl _ | (apply Prm.take; repeat (first | exact Sel.here _ _ | apply Sel.there)) | refine Prm.drop ?_))

def hasB (bits : List Bool) (i : Int) : Bool := decide (0 ≤ i) && bits.getD i.toNat false
theorem hasB_nat (bits : List Bool) (k : Nat) : hasB bits (k : Int) = bits.getD k false := by simp [hasB]

theorem bm_word {bits : List Bool} {ws : List Nat} (h : BmOk bits ws) {k : Nat} (hk : k < bits.length) : ∃ w, ws[k / 64]? = some w ∧ w < 2 ^ 64 ∧ w.testBit (k % 64) = bits.getD k false := by
  have hl : k / 64 < ws.length := by rw [h.len]; omega
  have e := List.getElem?_eq_getElem hl
  refine ⟨_, e, h.word _ _ e, ?_⟩
  have := h.bit (k / 64) _ e (k % 64) (by omega)
  rw [this, show 64 * (k / 64) + k % 64 = k by omega]

theorem shr_and_one (w j : Nat) : decide (w >>> j &&& 1 = 1) = w.testBit j := by
  rw [Nat.testBit_eq_decide_div_mod_eq, Nat.shiftRight_eq_div_pow, Nat.and_one_is_mod]

theorem bitmap_Has (b : Nat) (bits : List Bool) (i : Int) :
    Ct Tryz.prog 349 [ptr b, it i] [bmR b bits] (det (.bool (hasB bits i)) [bmR b bits]) := by
  refine ct_intro Tryz.func349 rfl Tryz.ntmps349 Tryz.results349 fun R => e_nf ?_
  repeat (first | refine r_p ?_ | refine r_l ?_ | refine r_s ?_ | refine r_n fun _ => ?_ | refine r_end ?_ | refine e_r ?_ | refine e_j ?_ | refine e_true ?_ | refine e_false ?_ | refine r_tt ?_ | refine r_ff ?_ | refine e_tt ?_ | refine e_ff ?_)
  refine r_if (fun hi => ?_) (fun hi => ?_)
  · obtain ⟨k, rfl⟩ := Int.eq_ofNat_of_zero_le hi
    repeat (first | refine r_p ?_ | refine r_l ?_ | refine r_s ?_ | refine r_n fun _ => ?_ | refine r_end ?_ | refine e_r ?_ | refine e_j ?_ | refine e_true ?_ | refine e_false ?_ | refine r_tt ?_ | refine r_ff ?_ | refine e_tt ?_ | refine e_ff ?_)
    refine r_c (bitmap_Len b bits) ?_
    repeat (first | refine r_p ?_ | refine r_l ?_ | refine r_s ?_ | refine r_n fun _ => ?_ | refine r_end ?_ | refine e_r ?_ | refine e_j ?_ | refine e_true ?_ | refine e_false ?_ | refine r_tt ?_ | refine r_ff ?_ | refine e_tt ?_ | refine e_ff ?_)
    refine r_if (fun hk => ?_) (fun hk => ?_)
    · have hk : k < bits.length := by omega
      refine r_o (by repeat (first | exact Sel.here _ _ | apply Sel.there)) fun g hok => ?_
      obtain ⟨w, h1, h2, h3⟩ := bm_word hok hk
      have := hok.most; have := hok.len; have := Nat.shiftRight_le w (k % 64)
      repeat (first | refine r_p ?_ | refine r_l ?_ | refine r_s ?_ | refine r_n fun _ => ?_ | refine r_end ?_ | refine e_r ?_ | refine e_j ?_ | refine e_true ?_ | refine e_false ?_ | refine r_tt ?_ | refine r_ff ?_ | refine e_tt ?_ | refine e_ff ?_)
      refine r_li (v := wd w) ?_ ?_
      · simp [h1]
      repeat (first | refine r_p ?_ | refine r_l ?_ | refine r_s ?_ | refine r_n fun _ => ?_ | refine r_end ?_ | refine e_r ?_ | refine e_j ?_ | refine e_true ?_ | refine e_false ?_ | refine r_tt ?_ | refine r_ff ?_ | refine e_tt ?_ | refine e_ff ?_)
      refine e_ret0 ?_ (hV := ?_)
      · refine n_s g hok ?_
        (refine Prm.ent ?_; repeat (first | exact Prm.refl _ | (apply Prm.take; repeat (first | exact Sel.here _ _ | apply Sel.there)) | refine Prm.drop ?_))
      · simp only [tup]; rw [shr_and_one, h3]; simp [hasB]
    · repeat (first | refine r_p ?_ | refine r_l ?_ | refine r_s ?_ | refine r_n fun _ => ?_ | refine r_end ?_ | refine e_r ?_ | refine e_j ?_ | refine e_true ?_ | refine e_false ?_ | refine r_tt ?_ | refine r_ff ?_ | refine e_tt ?_ | refine e_ff ?_)
      refine e_ret0 ?_ (hV := ?_)
      · (refine Prm.ent ?_; repeat (first | exact Prm.refl _ | (apply Prm.take; repeat (first | exact Sel.here _ _ | apply Sel.there)) | refine Prm.drop ?_))
      · simp [tup, hasB, List.getElem?_eq_none (show bits.length ≤ k by omega)]
  · repeat (first | refine r_p ?_ | refine r_l ?_ | refine r_s ?_ | refine r_n fun _ => ?_ | refine r_end ?_ | refine e_r ?_ | refine e_j ?_ | refine e_true ?_ | refine e_false ?_ | refine r_tt ?_ | refine r_ff ?_ | refine e_tt ?_ | refine e_ff ?_)
    refine e_ret0 ?_ (hV := ?_)
    · (refine Prm.ent ?_; repeat (first | exact Prm.refl _ | (apply Prm.take; repeat (first | exact Sel.here _ _ | apply Sel.there)) | refine Prm.drop ?_))
    · simp [tup, hasB]; omega

theorem getD_set (bits : List Bool) (k j : Nat) (v : Bool) (hk : k < bits.length) : (bits.set k v).getD j false = if j = k then v else bits.getD j false := by
  simp only [List.getD_eq_getElem?_getD, List.getElem?_set]
  by_cases h : k = j
  · subst h; simp [hk]
  · rw [if_neg h, if_neg (fun e => h e.symm)]

theorem bm_turn {bits : List Bool} {ws : List Nat} (h : BmOk bits ws) {k w : Nat} (hk : k < bits.length) (hw : ws[k / 64]? = some w) {on : Bool} (hne : bits.getD k false ≠ on) :
    BmOk (bits.set k on) (ws.set (k / 64) (w ^^^ (1 <<< (k % 64) % 2 ^ 64))) where
  len := by simp [h.len]
  pos := by simpa using h.pos
  most := by simpa using h.most
  word i u hu := by
    rw [List.getElem?_set] at hu
    split at hu
    · split at hu
      · cases hu
        exact Nat.xor_lt_two_pow (h.word _ _ hw) (Nat.mod_lt _ (by decide))
      · cases hu
    · exact h.word _ _ hu
  bit i u hu j hj := by
    rw [getD_set _ _ _ _ hk]
    rw [List.getElem?_set] at hu
    have hk64 : k % 64 < 64 := Nat.mod_lt _ (by decide)
    split at hu
    · rename_i e
      split at hu
      · cases hu
        subst e
        rw [Nat.testBit_xor, h.bit _ _ hw j hj, Nat.testBit_mod_two_pow, Nat.testBit_shiftLeft]
        have hd := Nat.div_add_mod k 64
        by_cases hjk : j = k % 64
        · subst hjk
          rw [show 64 * (k / 64) + k % 64 = k by omega]
          simp [hj]
          cases hb : bits.getD k false <;> cases on <;> simp_all
        · have : (1 : Nat).testBit (j - k % 64) = false ∨ j < k % 64 := by
            rcases Nat.lt_or_ge j (k % 64) with h | h
            · exact .inr h
            · left
              have : j - k % 64 ≠ 0 := by omega
              exact Bool.eq_false_iff.2 fun h => this (Nat.testBit_one_eq_true_iff_self_eq_zero.1 h)
          rw [if_neg (by omega)]
          rcases this with h | h
          · simp [h]
          · simp [show ¬ k % 64 ≤ j by omega]
      · cases hu
    · rename_i e
      rw [h.bit i u hu j hj, if_neg]
      omega

theorem count_set (bits : List Bool) (k : Nat) (hk : k < bits.length) : (bits.getD k false = false → (bits.set k true).count true = bits.count true + 1) ∧ (bits.getD k false = true → (bits.set k false).count true + 1 = bits.count true) := by
  induction bits generalizing k with
  | nil => simp at hk
  | cons x bits ih =>
    cases k with
    | zero => constructor <;> (intro h; simp at h; subst h; simp)
    | succ k =>
      have := ih k (by simpa using hk)
      constructor <;> intro h
      · have := this.1 (by simpa using h)
        simp only [List.set_cons_succ, List.count_cons, this]; omega
      · have := this.2 (by simpa using h)
        simp only [List.set_cons_succ, List.count_cons]; omega
theorem set_same (bits : List Bool) (k : Nat) (hk : k < bits.length) (v : Bool) (h : bits.getD k false = v) : bits.set k v = bits := by
  simp only [List.getD_eq_getElem?_getD, List.getElem?_eq_getElem hk, Option.getD_some] at h
  rw [← h]
  exact List.set_getElem_self hk

theorem bitmap_turn (b k : Nat) (bits : List Bool) (on : Bool) (hk : k < bits.length) :
    Ct Tryz.prog 338 [ptr b, it k, .bool on] [bmR b bits] (det (.tuple #[]) [bmR b (bits.set k on)]) := by
  refine ct_intro Tryz.func338 rfl Tryz.ntmps338 Tryz.results338 fun R => e_nf ?_
  repeat (first | refine r_p ?_ | refine r_l ?_ | refine r_s ?_ | refine r_n fun _ => ?_ | refine r_end ?_ | refine e_r ?_ | refine e_d pl338 ?_ | refine e_j ?_ | refine e_true ?_ | refine e_false ?_ | refine r_tt ?_ | refine r_ff ?_ | refine e_tt ?_ | refine e_ff ?_)
  refine r_c (bitmap_Has b bits k) ?_
  repeat (first | refine r_p ?_ | refine r_l ?_ | refine r_s ?_ | refine r_n fun _ => ?_ | refine r_end ?_ | refine e_r ?_ | refine e_d pl338 ?_ | refine e_j ?_ | refine e_true ?_ | refine e_false ?_ | refine r_tt ?_ | refine r_ff ?_ | refine e_tt ?_ | refine e_ff ?_)
  refine e_ifb (fun h => ?_) (fun h => ?_)
  · repeat (first | refine r_p ?_ | refine r_l ?_ | refine r_s ?_ | refine r_n fun _ => ?_ | refine r_end ?_ | refine e_r ?_ | refine e_d pl338 ?_ | refine e_j ?_ | refine e_true ?_ | refine e_false ?_ | refine r_tt ?_ | refine r_ff ?_ | refine e_tt ?_ | refine e_ff ?_)
    have e : bits.set k on = bits := set_same bits k hk on (by rw [hasB_nat] at h; simpa using h)
    refine e_ret0 ?_
    rw [e]
    (refine Prm.ent ?_; repeat (first | exact Prm.refl _ | (apply Prm.take; repeat (first | exact Sel.here _ _ | apply Sel.there)) | refine Prm.drop ?_))
  · have hne : bits.getD k false ≠ on := by rw [hasB_nat] at h; simpa using h
    refine e_o (by repeat (first | exact Sel.here _ _ | apply Sel.there)) fun g hok => ?_
    obtain ⟨w, h1, h2, h3⟩ := bm_word hok hk
    have := hok.most; have := hok.len
    repeat (first | refine r_p ?_ | refine r_l ?_ | refine r_s ?_ | refine r_n fun _ => ?_ | refine r_end ?_ | refine e_r ?_ | refine e_d pl338 ?_ | refine e_j ?_ | refine e_true ?_ | refine e_false ?_ | refine r_tt ?_ | refine r_ff ?_ | refine e_tt ?_ | refine e_ff ?_)
    refine r_li (v := wd w) ?_ ?_
    · simp [h1]
    repeat (first | refine r_p ?_ | refine r_l ?_ | refine r_s ?_ | refine r_n fun _ => ?_ | refine r_end ?_ | refine e_r ?_ | refine e_d pl338 ?_ | refine e_j ?_ | refine e_true ?_ | refine e_false ?_ | refine r_tt ?_ | refine r_ff ?_ | refine e_tt ?_ | refine e_ff ?_)
    have hc : bits.count true ≤ bits.length := List.count_le_length
    refine r_si ?_ ?_
    · simp; omega
    rw [← List.map_set]
    have hT := bm_turn hok hk h1 hne
    have hC := count_set bits k hk
    cases on with
    | true =>
      have hC := hC.1 (by simpa using hne)
      repeat (first | refine r_p ?_ | refine r_l ?_ | refine r_s ?_ | refine r_n fun _ => ?_ | refine r_end ?_ | refine e_r ?_ | refine e_d pl338 ?_ | refine e_j ?_ | refine e_true ?_ | refine e_false ?_ | refine r_tt ?_ | refine r_ff ?_ | refine e_tt ?_ | refine e_ff ?_)
      refine e_ret0 ?_
      refine n_s (g.1, _) hT ?_
      rw [show ((bits.count true : Nat) : Int) - 1 + 2 = (((bits.set k true).count true : Nat) : Int) by omega]
      simp only [List.length_set]
      (refine Prm.ent ?_; repeat (first | exact Prm.refl _ | (apply Prm.take; repeat (first | exact Sel.here _ _ | apply Sel.there)) | refine Prm.drop ?_))
    | false =>
      have hC := hC.2 (by simpa using hne)
      repeat (first | refine r_p ?_ | refine r_l ?_ | refine r_s ?_ | refine r_n fun _ => ?_ | refine r_end ?_ | refine e_r ?_ | refine e_d pl338 ?_ | refine e_j ?_ | refine e_true ?_ | refine e_false ?_ | refine r_tt ?_ | refine r_ff ?_ | refine e_tt ?_ | refine e_ff ?_)
      refine e_ret0 ?_
      refine n_s (g.1, _) hT ?_
      rw [show ((bits.count true : Nat) : Int) - 1 = (((bits.set k false).count true : Nat) : Int) by omega]
      simp only [List.length_set]
      (refine Prm.ent ?_; repeat (first | exact Prm.refl _ | (apply Prm.take; repeat (first | exact Sel.here _ _ | apply Sel.there)) | refine Prm.drop ?_))

/-- n places from one on are set -/
def fillA {α : Type} (l : List α) (a : Nat) : Nat → α → List α
  | 0, _ => l
  | n + 1, x => (fillA l a n x).set (a + n) x
abbrev fillB (bits : List Bool) (a n : Nat) (on : Bool) : List Bool := fillA bits a n on
theorem fillA_len {α : Type} (l : List α) (a : Nat) (x : α) : ∀ n, (fillA l a n x).length = l.length
  | 0 => rfl
  | n + 1 => by simp [fillA, fillA_len l a x n]
theorem fillB_len (bits : List Bool) (a : Nat) (on : Bool) (n : Nat) : (fillB bits a n on).length = bits.length := fillA_len bits a on n
theorem fillA_getD {α : Type} (l : List α) (a : Nat) (x d : α) : ∀ n j, (fillA l a n x).getD j d = if a ≤ j ∧ j < a + n ∧ j < l.length then x else l.getD j d
  | 0, j => by rw [if_neg (by omega)]; rfl
  | n + 1, j => by
    have ih := fillA_getD l a x d n j
    simp only [List.getD_eq_getElem?_getD] at ih ⊢
    simp only [fillA, List.getElem?_set, fillA_len]
    by_cases h : a + n = j
    · subst h
      by_cases h2 : a + n < l.length
      · rw [if_pos rfl, if_pos h2, if_pos ⟨by omega, by omega, h2⟩]; rfl
      · rw [if_pos rfl, if_neg h2, if_neg (by omega), List.getElem?_eq_none (by omega)]
    · rw [if_neg h, ih]
      by_cases h2 : a ≤ j ∧ j < a + n ∧ j < l.length
      · rw [if_pos h2, if_pos ⟨h2.1, by omega, h2.2.2⟩]
      · rw [if_neg h2, if_neg (by omega)]
theorem fillA_map {α β : Type} (f : α → β) (l : List α) (a : Nat) (x : α) : ∀ n, (fillA l a n x).map f = fillA (l.map f) a n (f x)
  | 0 => rfl
  | n + 1 => by simp only [fillA, List.map_set, fillA_map f l a x n]
theorem fillA_mem {α : Type} {l : List α} {a : Nat} {x y : α} : ∀ n, y ∈ fillA l a n x → y = x ∨ y ∈ l
  | 0, h => .inr h
  | n + 1, h => (List.mem_or_eq_of_mem_set h).elim (fun h => fillA_mem n h) .inl
theorem fillA_eq {α : Type} (l : List α) (a : Nat) (x : α) : ∀ n, a + n ≤ l.length → fillA l a n x = l.take a ++ List.replicate n x ++ l.drop (a + n)
  | 0, h => by simp [fillA]
  | n + 1, h => by
    have ih := fillA_eq l a x n (by omega)
    simp only [fillA, ih]
    have h1 : (l.take a ++ List.replicate n x).length = a + n := by simp; omega
    rw [List.set_append_right _ _ (by omega), h1, Nat.sub_self, List.drop_eq_getElem_cons (show a + n < l.length by omega)]
    simp [List.replicate_succ', Nat.add_assoc]

theorem bitmap_Fill (b a n : Nat) (bits : List Bool) (on : Bool) (h : a + n ≤ bits.length) :
    Ct Tryz.prog 301 [ptr b, it a, it n, .bool on] [bmR b bits] (det (it 0) [bmR b (fillB bits a n on)]) := by
  refine ct_intro Tryz.func301 rfl Tryz.ntmps301 Tryz.results301 fun R => e_nf ?_
  refine e_o (by repeat (first | exact Sel.here _ _ | apply Sel.there)) fun g hok => ?_
  have := hok.most
  repeat (first | refine r_p ?_ | refine r_l ?_ | refine r_s ?_ | refine r_n fun _ => ?_ | refine r_end ?_ | refine e_r ?_ | refine e_j ?_ | refine e_true ?_ | refine e_false ?_ | refine r_tt ?_ | refine r_ff ?_ | refine e_tt ?_ | refine e_ff ?_)
  refine e_loop (fun j => j ≤ n) (fun j => ⟨50, [(9, it ((a + j : Nat) : Int)), (0, ptr b), (1, it a), (2, it n), (3, .bool on), (8, it 0)], []⟩) (fun j => bmR b (fillB bits a j on) :: R) (fun j => n - j) 0 (Nat.zero_le _) (by repeat (first | exact le_nil | refine le_cons ?_)) ?_ fun j hj => ?_
  · refine n_s g hok ?_
    (refine Prm.ent ?_; repeat (first | exact Prm.refl _ | (apply Prm.take; repeat (first | exact Sel.here _ _ | apply Sel.there)) | refine Prm.drop ?_))
  repeat (first | refine r_p ?_ | refine r_l ?_ | refine r_s ?_ | refine r_n fun _ => ?_ | refine r_end ?_ | refine e_r ?_ | refine e_j ?_ | refine e_true ?_ | refine e_false ?_ | refine r_tt ?_ | refine r_ff ?_ | refine e_tt ?_ | refine e_ff ?_)
  refine e_if (fun h => ?_) (fun h => ?_)
  · repeat (first | refine r_p ?_ | refine r_l ?_ | refine r_s ?_ | refine r_n fun _ => ?_ | refine r_end ?_ | refine e_r ?_ | refine e_j ?_ | refine e_true ?_ | refine e_false ?_ | refine r_tt ?_ | refine r_ff ?_ | refine e_tt ?_ | refine e_ff ?_)
    refine r_c (bitmap_turn b (a + j) (fillB bits a j on) on (by rw [fillB_len]; omega)) ?_
    repeat (first | refine r_p ?_ | refine r_l ?_ | refine r_s ?_ | refine r_n fun _ => ?_ | refine r_end ?_ | refine e_r ?_ | refine e_j ?_ | refine e_true ?_ | refine e_false ?_ | refine r_tt ?_ | refine r_ff ?_ | refine e_tt ?_ | refine e_ff ?_)
    refine e_next (j + 1) (by omega) (by omega) (by repeat (first | exact le_nil | refine le_cons ?_)) ?_
    (refine Prm.ent ?_; repeat (first | exact Prm.refl _ | (apply Prm.take; repeat (first | exact Sel.here _ _ | apply Sel.there)) | refine Prm.drop ?_))
  · repeat (first | refine r_p ?_ | refine r_l ?_ | refine r_s ?_ | refine r_n fun _ => ?_ | refine r_end ?_ | refine e_r ?_ | refine e_j ?_ | refine e_true ?_ | refine e_false ?_ | refine r_tt ?_ | refine r_ff ?_ | refine e_tt ?_ | refine e_ff ?_)
    have e : j = n := by omega
    subst e
    refine e_ret0 ?_
    (refine Prm.ent ?_; repeat (first | exact Prm.refl _ | (apply Prm.take; repeat (first | exact Sel.here _ _ | apply Sel.there)) | refine Prm.drop ?_))

theorem bitmap_Fill_range (b : Nat) (a n : Int) (bits : List Bool) (on : Bool) (h : n < 0 ∨ a < 0 ∨ (bits.length : Int) < a ∨ (bits.length : Int) - a < n) (ha : a ≤ 9223372036854775807) :
    Ct Tryz.prog 301 [ptr b, it a, it n, .bool on] [bmR b bits] (det (it 3) [bmR b bits]) := by
  refine ct_intro Tryz.func301 rfl Tryz.ntmps301 Tryz.results301 fun R => e_nf ?_
  refine e_o (by repeat (first | exact Sel.here _ _ | apply Sel.there)) fun g hok => ?_
  have := hok.most
  repeat (first | refine r_p ?_ | refine r_l ?_ | refine r_s ?_ | refine r_n fun _ => ?_ | refine r_end ?_ | refine e_r ?_ | refine e_j ?_ | refine e_true ?_ | refine e_false ?_ | refine r_tt ?_ | refine r_ff ?_ | refine e_tt ?_ | refine e_ff ?_)
  by_cases h1 : n < 0
  · repeat (first | refine r_p ?_ | refine r_l ?_ | refine r_s ?_ | refine r_n fun _ => ?_ | refine r_end ?_ | refine e_r ?_ | refine e_j ?_ | refine e_true ?_ | refine e_false ?_ | refine r_tt ?_ | refine r_ff ?_ | refine e_tt ?_ | refine e_ff ?_)
    refine e_ret0 ?_
    refine n_s g hok ?_
    (refine Prm.ent ?_; repeat (first | exact Prm.refl _ | (apply Prm.take; repeat (first | exact Sel.here _ _ | apply Sel.there)) | refine Prm.drop ?_))
  repeat (first | refine r_p ?_ | refine r_l ?_ | refine r_s ?_ | refine r_n fun _ => ?_ | refine r_end ?_ | refine e_r ?_ | refine e_j ?_ | refine e_true ?_ | refine e_false ?_ | refine r_tt ?_ | refine r_ff ?_ | refine e_tt ?_ | refine e_ff ?_)
  by_cases h2 : a < 0
  · repeat (first | refine r_p ?_ | refine r_l ?_ | refine r_s ?_ | refine r_n fun _ => ?_ | refine r_end ?_ | refine e_r ?_ | refine e_j ?_ | refine e_true ?_ | refine e_false ?_ | refine r_tt ?_ | refine r_ff ?_ | refine e_tt ?_ | refine e_ff ?_)
    refine e_ret0 ?_
    refine n_s g hok ?_
    (refine Prm.ent ?_; repeat (first | exact Prm.refl _ | (apply Prm.take; repeat (first | exact Sel.here _ _ | apply Sel.there)) | refine Prm.drop ?_))
  repeat (first | refine r_p ?_ | refine r_l ?_ | refine r_s ?_ | refine r_n fun _ => ?_ | refine r_end ?_ | refine e_r ?_ | refine e_j ?_ | refine e_true ?_ | refine e_false ?_ | refine r_tt ?_ | refine r_ff ?_ | refine e_tt ?_ | refine e_ff ?_)
  by_cases h3 : (bits.length : Int) < a
  · repeat (first | refine r_p ?_ | refine r_l ?_ | refine r_s ?_ | refine r_n fun _ => ?_ | refine r_end ?_ | refine e_r ?_ | refine e_j ?_ | refine e_true ?_ | refine e_false ?_ | refine r_tt ?_ | refine r_ff ?_ | refine e_tt ?_ | refine e_ff ?_)
    refine e_ret0 ?_
    refine n_s g hok ?_
    (refine Prm.ent ?_; repeat (first | exact Prm.refl _ | (apply Prm.take; repeat (first | exact Sel.here _ _ | apply Sel.there)) | refine Prm.drop ?_))
  repeat (first | refine r_p ?_ | refine r_l ?_ | refine r_s ?_ | refine r_n fun _ => ?_ | refine r_end ?_ | refine e_r ?_ | refine e_j ?_ | refine e_true ?_ | refine e_false ?_ | refine r_tt ?_ | refine r_ff ?_ | refine e_tt ?_ | refine e_ff ?_)
  refine e_ret0 ?_
  refine n_s g hok ?_
  (refine Prm.ent ?_; repeat (first | exact Prm.refl _ | (apply Prm.take; repeat (first | exact Sel.here _ _ | apply Sel.there)) | refine Prm.drop ?_))

theorem bitmap_Set (b k : Nat) (bits : List Bool) (on : Bool) (h : k < bits.length) :
    Ct Tryz.prog 237 [ptr b, it k, .bool on] [bmR b bits] (det (it 0) [bmR b (bits.set k on)]) := by
  refine ct_intro Tryz.func237 rfl Tryz.ntmps237 Tryz.results237 fun R => e_nf ?_
  repeat (first | refine r_p ?_ | refine r_l ?_ | refine r_s ?_ | refine r_n fun _ => ?_ | refine r_end ?_ | refine e_r ?_ | refine e_j ?_ | refine e_true ?_ | refine e_false ?_ | refine r_tt ?_ | refine r_ff ?_ | refine e_tt ?_ | refine e_ff ?_)
  refine r_c (bitmap_Fill b k 1 bits on (by omega)) ?_
  repeat (first | refine r_p ?_ | refine r_l ?_ | refine r_s ?_ | refine r_n fun _ => ?_ | refine r_end ?_ | refine e_r ?_ | refine e_j ?_ | refine e_true ?_ | refine e_false ?_ | refine r_tt ?_ | refine r_ff ?_ | refine e_tt ?_ | refine e_ff ?_)
  refine e_ret0 ?_
  (refine Prm.ent ?_; repeat (first | exact Prm.refl _ | (apply Prm.take; repeat (first | exact Sel.here _ _ | apply Sel.there)) | refine Prm.drop ?_))

theorem bm_new (n : Nat) (h : 1 ≤ n) (h2 : n ≤ 1048576) : BmOk (List.replicate n false) (List.replicate ((n + 63) / 64) 0) where
  len := by simp
  pos := by simpa using h
  most := by simpa using h2
  word i w hw := by
    have := List.mem_of_getElem? hw
    rw [(List.mem_replicate.1 this).2]; decide
  bit i w hw j hj := by
    have := List.mem_of_getElem? hw
    rw [(List.mem_replicate.1 this).2]
    simp only [Nat.zero_testBit, List.getD_eq_getElem?_getD, List.getElem?_replicate]
    split <;> rfl
theorem zeros_one (n : Nat) (v : Value) : zeros n [v] = List.replicate n v := by simp [zeros]

theorem bitmap_New (n : Nat) (h : 1 ≤ n) (h2 : n ≤ 1048576) :
    Ct Tryz.prog 250 [it n] [] (exi (fun b => .tuple #[ptr b, it 0]) (fun b => [bmR b (List.replicate n false)]) (fun _ => True)) := by
  refine ct_intro Tryz.func250 rfl Tryz.ntmps250 Tryz.results250 fun R => e_nf ?_
  repeat (first | refine r_p ?_ | refine r_l ?_ | refine r_s ?_ | refine r_n fun _ => ?_ | refine r_end ?_ | refine e_r ?_ | refine e_j ?_ | refine e_true ?_ | refine e_false ?_ | refine r_tt ?_ | refine r_ff ?_ | refine e_tt ?_ | refine e_ff ?_)
  refine r_mk (c := (n + 63) / 64) (fun bw => ?_)
  rw [zeros_one]
  repeat (first | refine r_p ?_ | refine r_l ?_ | refine r_s ?_ | refine r_n fun _ => ?_ | refine r_end ?_ | refine e_r ?_ | refine e_j ?_ | refine e_true ?_ | refine e_false ?_ | refine r_tt ?_ | refine r_ff ?_ | refine e_tt ?_ | refine e_ff ?_)
  refine e_retx _ trivial ?_
  refine n_s (bw, List.replicate ((n + 63) / 64) 0) (bm_new n h h2) ?_
  simp only [List.length_replicate, List.map_replicate, List.count_replicate]
  (refine Prm.ent ?_; repeat (first | exact Prm.refl _ | (apply Prm.take; repeat (first | exact Sel.here _ _ | apply Sel.there)) | refine Prm.drop ?_))
