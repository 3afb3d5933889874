import Derived.Test.YtnignhaamlmelaaGreatDoorFacts
namespace Go.Proofs
open Go Go.Sl
set_option maxRecDepth 4000
attribute [local irreducible] Ex Run Ct Kt.body Sat Ent
/-- the lowest bit of a word -/
structure Low (x i : Nat) : Prop where
  on : x.testBit i = true
  off : ∀ j, j < i → x.testBit j = false
theorem low_form {x i : Nat} (h : Low x i) : x = 2 ^ (i + 1) * (x / 2 ^ (i + 1)) + 2 ^ i := by
  have h1 := Nat.div_add_mod x (2 ^ (i + 1))
  have h2 : x % 2 ^ (i + 1) = 2 ^ i := by
    apply Nat.eq_of_testBit_eq
    intro j
    rw [Nat.testBit_mod_two_pow, Nat.testBit_two_pow]
    by_cases hj : j < i
    · simp [h.off j hj]; omega
    · by_cases e : j = i
      · subst e; simp [h.on]
      · simp [show ¬ j < i + 1 by omega]; omega
  omega
theorem low_and {x i : Nat} (hx : x < 2 ^ 64) (h : Low x i) : x &&& ((2 ^ 64 - x) % 2 ^ 64) = 2 ^ i := by
  have hf := low_form h
  have hp : 0 < 2 ^ i := Nat.two_pow_pos i
  have h0 : 0 < x := by omega
  rw [Nat.mod_eq_of_lt (by omega)]
  have e1 : 2 ^ 64 - x = 2 ^ 64 - ((x - 1) + 1) := by omega
  have e2 : x - 1 = 2 ^ (i + 1) * (x / 2 ^ (i + 1)) + (2 ^ i - 1) := by omega
  have hlt1 : 2 ^ i < 2 ^ (i + 1) := Nat.pow_lt_pow_right (by decide) (by omega)
  apply Nat.eq_of_testBit_eq
  intro j
  rw [Nat.testBit_and, e1, Nat.testBit_two_pow_sub_succ (by omega), Nat.testBit_two_pow]
  by_cases hj : j < i
  · simp [h.off j hj]; omega
  · by_cases e : j = i
    · subst e
      have : (x - 1).testBit j = false := by
        rw [e2, Nat.testBit_two_pow_mul_add _ (by omega)]
        simp [Nat.testBit_two_pow_sub_one]
      have h64 : j < 64 := by
        rcases Nat.lt_or_ge j 64 with h | h'
        · exact h
        · have := Nat.testBit_lt_two_pow (x := x) (i := j) (Nat.lt_of_lt_of_le hx (Nat.pow_le_pow_right (by decide) h'))
          rw [h.on] at this; cases this
      simp [h.on, this, h64]
    · have hji : ¬ j < i + 1 := by omega
      have t1 : x.testBit j = (x / 2 ^ (i + 1)).testBit (j - (i + 1)) := by
        rw [hf, Nat.testBit_two_pow_mul_add _ hlt1, if_neg hji]
        congr 1
        rw [Nat.mul_add_div (Nat.two_pow_pos _), Nat.div_eq_of_lt hlt1]; simp
      have t2 : (x - 1).testBit j = (x / 2 ^ (i + 1)).testBit (j - (i + 1)) := by
        rw [e2, Nat.testBit_two_pow_mul_add _ (by omega), if_neg hji]
      rw [t1, t2]
      have : decide (i = j) = false := by simp; omega
      rw [this]
      cases (x / 2 ^ (i + 1)).testBit (j - (i + 1)) <;> simp
theorem low_lt {x i : Nat} (hx : x < 2 ^ 64) (h : Low x i) : i < 64 := by
  rcases Nat.lt_or_ge i 64 with h' | h'
  · exact h'
  · have := Nat.testBit_lt_two_pow (x := x) (i := i) (Nat.lt_of_lt_of_le hx (Nat.pow_le_pow_right (by decide) h'))
    rw [h.on] at this; cases this
theorem tab_at : ∀ i, i < 64 → (2 ^ i * 285870213051353865 % 2 ^ 64) >>> 58 < 64 ∧ tab64[(2 ^ i * 285870213051353865 % 2 ^ 64) >>> 58]? = some i := by decide

theorem bits_Trailing (x i : Nat) (hx : x < 2 ^ 64) (h : Low x i) : Ct Tryz.prog 298 [wd x] [] (det (it i) []) := by
  refine ct_intro Tryz.func298 rfl Tryz.ntmps298 Tryz.results298 fun R => e_nf ?_
  have hne : x ≠ 0 := fun e => by subst e; have := h.on; simp at this
  have hi := low_lt hx h
  have ht := tab_at i hi
  have hand := low_and hx h
  have hpw : 2 ^ i < 2 ^ 64 := Nat.pow_lt_pow_right (by decide) hi
  repeat (first | refine r_p ?_ | refine r_l ?_ | refine r_s ?_ | refine r_n fun _ => ?_ | refine r_end ?_ | refine e_r ?_ | refine e_j ?_ | refine e_true ?_ | refine e_false ?_ | refine r_tt ?_ | refine r_ff ?_ | refine e_tt ?_ | refine e_ff ?_)
  refine r_lt (v := i) ?_ ?_
  · rw [hand]; exact ht.2
  repeat (first | refine r_p ?_ | refine r_l ?_ | refine r_s ?_ | refine r_n fun _ => ?_ | refine r_end ?_ | refine e_r ?_ | refine e_j ?_ | refine e_true ?_ | refine e_false ?_ | refine r_tt ?_ | refine r_ff ?_ | refine e_tt ?_ | refine e_ff ?_)
  refine e_ret0 ?_
  (refine Prm.ent ?_; repeat (first | exact Prm.refl _ | (apply Prm.take; repeat (first | exact Sel.here _ _ | apply Sel.there)) | refine Prm.drop ?_))
