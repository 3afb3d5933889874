import Derived.Test.YtnignhaamlmelaaGreatDoorBm
namespace Go.Proofs
open Go Go.Sl
set_option maxRecDepth 4000
attribute [local irreducible] Ex Run Ct Kt.body Sat Ent
/-- r is the first place from a on that is v; the length, if there is none -/
structure IsNx (bits : List Bool) (v : Bool) (a r : Nat) : Prop where
  ge : a ≤ r
  le : r ≤ bits.length
  no : ∀ j, a ≤ j → j < r → bits.getD j false = !v
  yes : r < bits.length → bits.getD r false = v
theorem low_ex {x : Nat} (h : x ≠ 0) : ∃ i, Low x i := by
  have hex : ∃ i, x.testBit i = true := Nat.exists_testBit_of_ne_zero h
  obtain ⟨i, h1, h2⟩ := least hex
  exact ⟨i, h1, fun j hj => by
    cases hb : x.testBit j with
    | false => rfl
    | true => have := h2 j hb; omega⟩
theorem nx_word {bits : List Bool} {ws : List Nat} (h : BmOk bits ws) {a j w : Nat} (hw : ws[j / 64]? = some w) (hno : ∀ x, a ≤ x → x < j → bits.getD x false = false) (haj : a ≤ j) :
    (w >>> (j % 64) = 0 → ∀ x, a ≤ x → x < (j / 64 + 1) * 64 → bits.getD x false = false) ∧ (∀ i, Low (w >>> (j % 64)) i → IsNx bits true a (j + i)) := by
  have hd := Nat.div_add_mod j 64
  have hm : j % 64 < 64 := Nat.mod_lt _ (by decide)
  have bit : ∀ i, j % 64 + i < 64 → w.testBit (j % 64 + i) = bits.getD (j + i) false := fun i hi => by
    rw [h.bit _ _ hw _ hi]; congr 1; omega
  constructor
  · intro h0 x hax hx
    by_cases hxj : x < j
    · exact hno x hax hxj
    · have := bit (x - j) (by omega)
      rw [show j + (x - j) = x by omega] at this
      rw [← this, ← Nat.testBit_shiftRight, h0]; simp
  · intro i hi
    have h1 := hi.on
    rw [Nat.testBit_shiftRight] at h1
    have hlt : j % 64 + i < 64 := by
      rcases Nat.lt_or_ge (j % 64 + i) 64 with h' | h'
      · exact h'
      · have := Nat.testBit_lt_two_pow (x := w) (i := j % 64 + i) (Nat.lt_of_lt_of_le (h.word _ _ hw) (Nat.pow_le_pow_right (by decide) h'))
        rw [h1] at this; cases this
    rw [bit i hlt] at h1
    have hlen : j + i < bits.length := by
      rcases Nat.lt_or_ge (j + i) bits.length with h' | h'
      · exact h'
      · simp [List.getElem?_eq_none h'] at h1
    refine ⟨by omega, by omega, fun x hax hx => ?_, fun _ => h1⟩
    by_cases hxj : x < j
    · exact hno x hax hxj
    · have h2 := hi.off (x - j) (by omega)
      rw [Nat.testBit_shiftRight, bit (x - j) (by omega), show j + (x - j) = x by omega] at h2
      simpa using h2

theorem bitmap_next (b a : Nat) (bits : List Bool) (ha : a ≤ bits.length) :
    Ct Tryz.prog 265 [ptr b, it a] [bmR b bits] (exi (fun r : Nat => it r) (fun _ => [bmR b bits]) (IsNx bits true a)) := by
  refine ct_intro Tryz.func265 rfl Tryz.ntmps265 Tryz.results265 fun R => e_nf ?_
  refine e_o (by repeat (first | exact Sel.here _ _ | apply Sel.there)) fun g hok => ?_
  have hmost := hok.most; have hlen := hok.len
  repeat (first | refine r_p ?_ | refine r_l ?_ | refine r_s ?_ | refine r_n fun _ => ?_ | refine r_end ?_ | refine e_r ?_ | refine e_j ?_ | refine e_true ?_ | refine e_false ?_ | refine r_tt ?_ | refine r_ff ?_ | refine e_tt ?_ | refine e_ff ?_)
  refine e_loop (fun j => a ≤ j ∧ j < bits.length + 64 ∧ ∀ x, a ≤ x → x < j → bits.getD x false = false) (fun j => ⟨37, [(0, ptr b), (1, it (j : Nat)), (4, it 0)], []⟩) (fun _ => cl b [it bits.length, .slice (some ⟨g.1, 0, none⟩) g.2.length g.2.length, it (bits.count true)] 359 :: cl g.1 (g.2.map wd) 29 :: R) (fun j => bits.length + 64 - j) a ⟨Nat.le_refl _, by omega, fun x h1 h2 => by omega⟩ (by repeat (first | exact le_nil | refine le_cons ?_)) (Ent.refl _) fun j hj => ?_
  obtain ⟨h1, h2, h3⟩ := hj
  repeat (first | refine r_p ?_ | refine r_l ?_ | refine r_s ?_ | refine r_n fun _ => ?_ | refine r_end ?_ | refine e_r ?_ | refine e_j ?_ | refine e_true ?_ | refine e_false ?_ | refine r_tt ?_ | refine r_ff ?_ | refine e_tt ?_ | refine e_ff ?_)
  refine e_if (fun h => ?_) (fun h => ?_)
  · obtain ⟨w, hw, hw2, _⟩ := bm_word hok (show j < bits.length by omega)
    have hsh := Nat.shiftRight_le w (j % 64)
    have hnx := nx_word hok hw h3 h1
    repeat (first | refine r_p ?_ | refine r_l ?_ | refine r_s ?_ | refine r_n fun _ => ?_ | refine r_end ?_ | refine e_r ?_ | refine e_j ?_ | refine e_true ?_ | refine e_false ?_ | refine r_tt ?_ | refine r_ff ?_ | refine e_tt ?_ | refine e_ff ?_)
    refine r_li (v := wd w) ?_ ?_
    · simp [hw]
    repeat (first | refine r_p ?_ | refine r_l ?_ | refine r_s ?_ | refine r_n fun _ => ?_ | refine r_end ?_ | refine e_r ?_ | refine e_j ?_ | refine e_true ?_ | refine e_false ?_ | refine r_tt ?_ | refine r_ff ?_ | refine e_tt ?_ | refine e_ff ?_)
    refine e_ifn (fun h => ?_) (fun h => ?_)
    · obtain ⟨i, hi⟩ := low_ex h
      have hb := Nat.lt_of_le_of_lt hsh hw2
      have := low_lt hb hi
      repeat (first | refine r_p ?_ | refine r_l ?_ | refine r_s ?_ | refine r_n fun _ => ?_ | refine r_end ?_ | refine e_r ?_ | refine e_j ?_ | refine e_true ?_ | refine e_false ?_ | refine r_tt ?_ | refine r_ff ?_ | refine e_tt ?_ | refine e_ff ?_)
      refine r_c (bits_Trailing _ i hb hi) ?_
      repeat (first | refine r_p ?_ | refine r_l ?_ | refine r_s ?_ | refine r_n fun _ => ?_ | refine r_end ?_ | refine e_r ?_ | refine e_j ?_ | refine e_true ?_ | refine e_false ?_ | refine r_tt ?_ | refine r_ff ?_ | refine e_tt ?_ | refine e_ff ?_)
      refine e_retx (j + i) (hnx.2 i hi) ?_
      refine n_s g hok ?_
      (refine Prm.ent ?_; repeat (first | exact Prm.refl _ | (apply Prm.take; repeat (first | exact Sel.here _ _ | apply Sel.there)) | refine Prm.drop ?_))
    · repeat (first | refine r_p ?_ | refine r_l ?_ | refine r_s ?_ | refine r_n fun _ => ?_ | refine r_end ?_ | refine e_r ?_ | refine e_j ?_ | refine e_true ?_ | refine e_false ?_ | refine r_tt ?_ | refine r_ff ?_ | refine e_tt ?_ | refine e_ff ?_)
      refine e_next ((j / 64 + 1) * 64) ⟨by omega, by omega, hnx.1 h⟩ (by omega) (by repeat (first | exact le_nil | refine le_cons ?_)) ?_
      (refine Prm.ent ?_; repeat (first | exact Prm.refl _ | (apply Prm.take; repeat (first | exact Sel.here _ _ | apply Sel.there)) | refine Prm.drop ?_))
  · repeat (first | refine r_p ?_ | refine r_l ?_ | refine r_s ?_ | refine r_n fun _ => ?_ | refine r_end ?_ | refine e_r ?_ | refine e_j ?_ | refine e_true ?_ | refine e_false ?_ | refine r_tt ?_ | refine r_ff ?_ | refine e_tt ?_ | refine e_ff ?_)
    refine e_retx bits.length ⟨ha, Nat.le_refl _, fun x h4 h5 => h3 x h4 (by omega), fun h => absurd h (by omega)⟩ ?_
    refine n_s g hok ?_
    (refine Prm.ent ?_; repeat (first | exact Prm.refl _ | (apply Prm.take; repeat (first | exact Sel.here _ _ | apply Sel.there)) | refine Prm.drop ?_))

theorem nx_wordF {bits : List Bool} {ws : List Nat} (h : BmOk bits ws) {a j w : Nat} (hw : ws[j / 64]? = some w) (hno : ∀ x, a ≤ x → x < j → bits.getD x false = true) :
    ((2 ^ 64 - 1 - w) >>> (j % 64) = 0 → ∀ x, a ≤ x → x < (j / 64 + 1) * 64 → bits.getD x false = true) ∧
    (∀ i, Low ((2 ^ 64 - 1 - w) >>> (j % 64)) i → bits.getD (j + i) false = false ∧ ∀ x, a ≤ x → x < j + i → bits.getD x false = true) := by
  have hd := Nat.div_add_mod j 64
  have hm : j % 64 < 64 := Nat.mod_lt _ (by decide)
  have hlt := h.word _ _ hw
  have bit : ∀ i, j % 64 + i < 64 → (2 ^ 64 - 1 - w).testBit (j % 64 + i) = !bits.getD (j + i) false := fun i hi => by
    rw [show 2 ^ 64 - 1 - w = 2 ^ 64 - (w + 1) by omega, Nat.testBit_two_pow_sub_succ hlt, h.bit _ _ hw _ hi]
    simp [hi]; congr 2; omega
  constructor
  · intro h0 x hax hx
    by_cases hxj : x < j
    · exact hno x hax hxj
    · have := bit (x - j) (by omega)
      rw [show j + (x - j) = x by omega, ← Nat.testBit_shiftRight, h0] at this
      simpa using this
  · intro i hi
    have h1 := hi.on
    rw [Nat.testBit_shiftRight] at h1
    have hlt2 : j % 64 + i < 64 := by
      rcases Nat.lt_or_ge (j % 64 + i) 64 with h' | h'
      · exact h'
      · have := Nat.testBit_lt_two_pow (x := 2 ^ 64 - 1 - w) (i := j % 64 + i) (Nat.lt_of_lt_of_le (show 2 ^ 64 - 1 - w < 2 ^ 64 by omega) (Nat.pow_le_pow_right (by decide) h'))
        rw [h1] at this; cases this
    rw [bit i hlt2] at h1
    refine ⟨by simpa using h1, fun x hax hx => ?_⟩
    by_cases hxj : x < j
    · exact hno x hax hxj
    · have h2 := hi.off (x - j) (by omega)
      rw [Nat.testBit_shiftRight, bit (x - j) (by omega), show j + (x - j) = x by omega] at h2
      simpa using h2

/-- what First tells: the place, if there is one -/
def fst1 (bits : List Bool) (r : Nat) : Value := .tuple #[it (if r < bits.length then (r : Int) else 0), .bool (decide (r < bits.length))]
theorem bitmap_First (b a : Nat) (bits : List Bool) (ha : a ≤ bits.length) :
    Ct Tryz.prog 236 [ptr b, it a] [bmR b bits] (exi (fun r : Nat => fst1 bits r) (fun _ => [bmR b bits]) (IsNx bits false a)) := by
  refine ct_intro Tryz.func236 rfl Tryz.ntmps236 Tryz.results236 fun R => e_nf ?_
  refine e_o (by repeat (first | exact Sel.here _ _ | apply Sel.there)) fun g hok => ?_
  have hmost := hok.most; have hlen := hok.len
  have hmax : max (a : Int) 0 = a := by omega
  repeat (first | refine r_p ?_ | refine r_l ?_ | refine r_s ?_ | refine r_n fun _ => ?_ | refine r_end ?_ | refine e_r ?_ | refine e_j ?_ | refine e_true ?_ | refine e_false ?_ | refine r_tt ?_ | refine r_ff ?_ | refine e_tt ?_ | refine e_ff ?_)
  rw [hmax]
  refine e_loop (fun j => a ≤ j ∧ j < bits.length + 64 ∧ ∀ x, a ≤ x → x < j → x < bits.length → bits.getD x false = true) (fun j => ⟨40, [(0, ptr b), (1, it (j : Nat)), (4, it 0), (5, .bool false)], []⟩) (fun _ => bmR b bits :: R) (fun j => bits.length + 64 - j) a ⟨Nat.le_refl _, by omega, fun x h1 h2 => by omega⟩ (by repeat (first | exact le_nil | refine le_cons ?_)) ?_ fun j hj => ?_
  · refine n_s g hok ?_
    (refine Prm.ent ?_; repeat (first | exact Prm.refl _ | (apply Prm.take; repeat (first | exact Sel.here _ _ | apply Sel.there)) | refine Prm.drop ?_))
  obtain ⟨h1, h2, h3⟩ := hj
  repeat (first | refine r_p ?_ | refine r_l ?_ | refine r_s ?_ | refine r_n fun _ => ?_ | refine r_end ?_ | refine e_r ?_ | refine e_j ?_ | refine e_true ?_ | refine e_false ?_ | refine r_tt ?_ | refine r_ff ?_ | refine e_tt ?_ | refine e_ff ?_)
  refine r_c (bitmap_Len b bits) ?_
  repeat (first | refine r_p ?_ | refine r_l ?_ | refine r_s ?_ | refine r_n fun _ => ?_ | refine r_end ?_ | refine e_r ?_ | refine e_j ?_ | refine e_true ?_ | refine e_false ?_ | refine r_tt ?_ | refine r_ff ?_ | refine e_tt ?_ | refine e_ff ?_)
  refine e_if (fun h => ?_) (fun h => ?_)
  · refine e_o (by repeat (first | exact Sel.here _ _ | apply Sel.there)) fun g hok => ?_
    have hlen := hok.len
    obtain ⟨w, hw, hw2, _⟩ := bm_word hok (show j < bits.length by omega)
    have hsh := Nat.shiftRight_le (2 ^ 64 - 1 - w) (j % 64)
    have hnx := nx_wordF hok hw (fun x h4 h5 => h3 x h4 h5 (by omega))
    repeat (first | refine r_p ?_ | refine r_l ?_ | refine r_s ?_ | refine r_n fun _ => ?_ | refine r_end ?_ | refine e_r ?_ | refine e_j ?_ | refine e_true ?_ | refine e_false ?_ | refine r_tt ?_ | refine r_ff ?_ | refine e_tt ?_ | refine e_ff ?_)
    refine r_li (v := wd w) ?_ ?_
    · simp [hw]
    repeat (first | refine r_p ?_ | refine r_l ?_ | refine r_s ?_ | refine r_n fun _ => ?_ | refine r_end ?_ | refine e_r ?_ | refine e_j ?_ | refine e_true ?_ | refine e_false ?_ | refine r_tt ?_ | refine r_ff ?_ | refine e_tt ?_ | refine e_ff ?_)
    refine e_ifn (fun h => ?_) (fun h => ?_)
    · obtain ⟨i, hi⟩ := low_ex h
      have hb : (2 ^ 64 - 1 - w) >>> (j % 64) < 2 ^ 64 := Nat.lt_of_le_of_lt hsh (by omega)
      have := low_lt hb hi
      obtain ⟨hy, hn⟩ := hnx.2 i hi
      repeat (first | refine r_p ?_ | refine r_l ?_ | refine r_s ?_ | refine r_n fun _ => ?_ | refine r_end ?_ | refine e_r ?_ | refine e_j ?_ | refine e_true ?_ | refine e_false ?_ | refine r_tt ?_ | refine r_ff ?_ | refine e_tt ?_ | refine e_ff ?_)
      refine r_c (bits_Trailing _ i hb hi) ?_
      repeat (first | refine r_p ?_ | refine r_l ?_ | refine r_s ?_ | refine r_n fun _ => ?_ | refine r_end ?_ | refine e_r ?_ | refine e_j ?_ | refine e_true ?_ | refine e_false ?_ | refine r_tt ?_ | refine r_ff ?_ | refine e_tt ?_ | refine e_ff ?_)
      refine Run.ent (H' := bmR b bits :: R) ?_ ?_
      rotate_left
      · refine n_s g hok ?_
        (refine Prm.ent ?_; repeat (first | exact Prm.refl _ | (apply Prm.take; repeat (first | exact Sel.here _ _ | apply Sel.there)) | refine Prm.drop ?_))
      refine r_c (bitmap_Len b bits) ?_
      by_cases hlt : j + i < bits.length
      · repeat (first | refine r_p ?_ | refine r_l ?_ | refine r_s ?_ | refine r_n fun _ => ?_ | refine r_end ?_ | refine e_r ?_ | refine e_j ?_ | refine e_true ?_ | refine e_false ?_ | refine r_tt ?_ | refine r_ff ?_ | refine e_tt ?_ | refine e_ff ?_)
        refine e_retx (j + i) ⟨by omega, by omega, hn, fun _ => hy⟩ ?_ (hV := ?_)
        · (refine Prm.ent ?_; repeat (first | exact Prm.refl _ | (apply Prm.take; repeat (first | exact Sel.here _ _ | apply Sel.there)) | refine Prm.drop ?_))
        · simp [tup, fst1, hlt]
      · repeat (first | refine r_p ?_ | refine r_l ?_ | refine r_s ?_ | refine r_n fun _ => ?_ | refine r_end ?_ | refine e_r ?_ | refine e_j ?_ | refine e_true ?_ | refine e_false ?_ | refine r_tt ?_ | refine r_ff ?_ | refine e_tt ?_ | refine e_ff ?_)
        refine e_retx bits.length ⟨ha, Nat.le_refl _, fun x h4 h5 => hn x h4 (by omega), fun h => absurd h (by omega)⟩ ?_ (hV := ?_)
        · (refine Prm.ent ?_; repeat (first | exact Prm.refl _ | (apply Prm.take; repeat (first | exact Sel.here _ _ | apply Sel.there)) | refine Prm.drop ?_))
        · simp [tup, fst1]
    · repeat (first | refine r_p ?_ | refine r_l ?_ | refine r_s ?_ | refine r_n fun _ => ?_ | refine r_end ?_ | refine e_r ?_ | refine e_j ?_ | refine e_true ?_ | refine e_false ?_ | refine r_tt ?_ | refine r_ff ?_ | refine e_tt ?_ | refine e_ff ?_)
      refine e_next ((j / 64 + 1) * 64) ⟨by omega, by omega, fun x h4 h5 _ => hnx.1 h x h4 h5⟩ (by omega) (by repeat (first | exact le_nil | refine le_cons ?_)) ?_
      refine n_s g hok ?_
      (refine Prm.ent ?_; repeat (first | exact Prm.refl _ | (apply Prm.take; repeat (first | exact Sel.here _ _ | apply Sel.there)) | refine Prm.drop ?_))
  · repeat (first | refine r_p ?_ | refine r_l ?_ | refine r_s ?_ | refine r_n fun _ => ?_ | refine r_end ?_ | refine e_r ?_ | refine e_j ?_ | refine e_true ?_ | refine e_false ?_ | refine r_tt ?_ | refine r_ff ?_ | refine e_tt ?_ | refine e_ff ?_)
    refine r_c (bitmap_Len b bits) ?_
    repeat (first | refine r_p ?_ | refine r_l ?_ | refine r_s ?_ | refine r_n fun _ => ?_ | refine r_end ?_ | refine e_r ?_ | refine e_j ?_ | refine e_true ?_ | refine e_false ?_ | refine r_tt ?_ | refine r_ff ?_ | refine e_tt ?_ | refine e_ff ?_)
    refine e_retx bits.length ⟨ha, Nat.le_refl _, fun x h4 h5 => h3 x h4 (by omega) h5, fun h => absurd h (by omega)⟩ ?_ (hV := ?_)
    · (refine Prm.ent ?_; repeat (first | exact Prm.refl _ | (apply Prm.take; repeat (first | exact Sel.here _ _ | apply Sel.there)) | refine Prm.drop ?_))
    · simp [tup, fst1]
