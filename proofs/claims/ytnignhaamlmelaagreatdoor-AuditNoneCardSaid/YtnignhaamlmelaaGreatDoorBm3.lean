import Derived.Test.YtnignhaamlmelaaGreatDoorBm2
namespace Go.Proofs
open Go Go.Sl
set_option maxRecDepth 4000
attribute [local irreducible] Ex Run Ct Kt.body Sat Ent
/-- a yield that may be called with the elements of xs, one behind the other: A is lent to it, J tells what it has done, X what holds when it has told to stop -/
def YieldOk {α : Type} (P : Program) (fv : Value) (A : List SP) (enc : α → List Value) (xs : List α) (J X : List α → SP) : Prop :=
  oneCell fv = true ∧ ∀ done x rest, xs = done ++ x :: rest → Cv P fv (enc x) (J done :: A) (fun v L => (v = .bool true ∧ L = J (done ++ [x]) :: A) ∨ (v = .bool false ∧ L = X (done ++ [x]) :: A))
/-- what holds behind an iterator -/
def SeqEnd {α : Type} (A : List SP) (xs : List α) (J X : List α → SP) : Value → List SP → Prop :=
  fun v L => v = .tuple #[] ∧ (L = J xs :: A ∨ ∃ done x rest, xs = done ++ x :: rest ∧ L = X (done ++ [x]) :: A)

def onsTo (bits : List Bool) (i : Nat) : List Nat := (List.range i).filter (bits.getD · false)
def ons (bits : List Bool) : List Nat := onsTo bits bits.length
theorem onsTo_succ (bits : List Bool) (i : Nat) : onsTo bits (i + 1) = if bits.getD i false then onsTo bits i ++ [i] else onsTo bits i := by
  simp only [onsTo, List.range_succ, List.filter_append]
  simp only [List.getD_eq_getElem?_getD]
  cases h : bits[i]?.getD false <;> simp [h]
theorem onsTo_no (bits : List Bool) (i : Nat) : ∀ d, (∀ j, i ≤ j → j < i + d → bits.getD j false = false) → onsTo bits (i + d) = onsTo bits i
  | 0, _ => rfl
  | d + 1, h => by
    rw [← Nat.add_assoc, onsTo_succ, h (i + d) (by omega) (by omega)]
    simpa using onsTo_no bits i d fun j h1 h2 => h j h1 (by omega)
theorem onsTo_nx {bits : List Bool} {a r : Nat} (h : IsNx bits true a r) : onsTo bits r = onsTo bits a := by
  have := onsTo_no bits a (r - a) fun j h1 h2 => by simpa using h.no j h1 (by have := h.ge; omega)
  rwa [show a + (r - a) = r by have := h.ge; omega] at this
theorem ons_split (bits : List Bool) (i : Nat) (hi : i < bits.length) (hb : bits.getD i false = true) : ∃ rest, ons bits = onsTo bits i ++ i :: rest := by
  have key : ∀ d, i + 1 + d ≤ bits.length → ∃ rest, onsTo bits (i + 1 + d) = onsTo bits i ++ i :: rest := by
    intro d
    induction d with
    | zero => intro _; exact ⟨[], by rw [Nat.add_zero, onsTo_succ, hb]; simp⟩
    | succ d ih =>
      intro hd
      obtain ⟨rest, e⟩ := ih (by omega)
      rw [← Nat.add_assoc, onsTo_succ, e]
      split
      · exact ⟨rest ++ [i + 1 + d], by simp⟩
      · exact ⟨rest, rfl⟩
  obtain ⟨rest, e⟩ := key (bits.length - (i + 1)) (by omega)
  rw [show i + 1 + (bits.length - (i + 1)) = bits.length by omega] at e
  exact ⟨rest, e⟩

theorem bitmap_All1 (b c : Nat) (bits : List Bool) (fv : Value) (J X : List Nat → SP) (hy : YieldOk Tryz.prog fv [bmR b bits] (fun i : Nat => [it (i : Int)]) (ons bits) J X) :
    Ct Tryz.prog 264 [fv, ptr c] [J [], cl c [ptr b] 257, bmR b bits] (SeqEnd [cl c [ptr b] 257, bmR b bits] (ons bits) J X) := by
  refine ct_intro Tryz.func264 rfl Tryz.ntmps264 Tryz.results264 fun R => e_nf ?_
  repeat (first | refine r_p ?_ | refine r_l ?_ | refine r_s ?_ | refine r_n fun _ => ?_ | refine r_end ?_ | refine e_r ?_ | refine e_j ?_ | refine e_true ?_ | refine e_false ?_ | refine r_tt ?_ | refine r_ff ?_ | refine e_tt ?_ | refine e_ff ?_)
  refine r_x (bitmap_next b 0 bits (by omega)) fun r hr => ?_
  repeat (first | refine r_p ?_ | refine r_l ?_ | refine r_s ?_ | refine r_n fun _ => ?_ | refine r_end ?_ | refine e_r ?_ | refine e_j ?_ | refine e_true ?_ | refine e_false ?_ | refine r_tt ?_ | refine r_ff ?_ | refine e_tt ?_ | refine e_ff ?_)
  have h0 : onsTo bits r = [] := onsTo_nx hr
  refine e_loop (fun i => i ≤ bits.length ∧ (i < bits.length → bits.getD i false = true)) (fun i => ⟨22, [(0, fv), (1, ptr c), (3, it (i : Nat))], []⟩) (fun i => J (onsTo bits i) :: cl c [ptr b] 257 :: bmR b bits :: R) (fun i => bits.length - i) r ⟨hr.le, hr.yes⟩ (by repeat (first | exact le_nil | refine le_cons ?_)) (by rw [h0]; (refine Prm.ent ?_; repeat (first | exact Prm.refl _ | (apply Prm.take; repeat (first | exact Sel.here _ _ | apply Sel.there)) | refine Prm.drop ?_))) fun i hi => ?_
  obtain ⟨h1, h2⟩ := hi
  refine e_o (by repeat (first | exact Sel.here _ _ | apply Sel.there)) fun g hok => ?_
  have hmost := hok.most
  repeat (first | refine r_p ?_ | refine r_l ?_ | refine r_s ?_ | refine r_n fun _ => ?_ | refine r_end ?_ | refine e_r ?_ | refine e_j ?_ | refine e_true ?_ | refine e_false ?_ | refine r_tt ?_ | refine r_ff ?_ | refine e_tt ?_ | refine e_ff ?_)
  refine e_if (fun h => ?_) (fun h => ?_)
  · refine Ex.ent (H' := bmR b bits :: J (onsTo bits i) :: cl c [ptr b] 257 :: R) ?_ ?_
    rotate_left
    · refine n_s g hok ?_
      (refine Prm.ent ?_; repeat (first | exact Prm.refl _ | (apply Prm.take; repeat (first | exact Sel.here _ _ | apply Sel.there)) | refine Prm.drop ?_))
    have hb := h2 (by omega)
    obtain ⟨rest, hs⟩ := ons_split bits i (by omega) hb
    repeat (first | refine r_p ?_ | refine r_l ?_ | refine r_s ?_ | refine r_n fun _ => ?_ | refine r_end ?_ | refine e_r ?_ | refine e_j ?_ | refine e_true ?_ | refine e_false ?_ | refine r_tt ?_ | refine r_ff ?_ | refine e_tt ?_ | refine e_ff ?_)
    refine r_cv (hy.2 _ _ _ hs) fun v L hL => ?_
    rcases hL with ⟨rfl, rfl⟩ | ⟨rfl, rfl⟩
    · refine r_nm ?_
      repeat (first | refine r_p ?_ | refine r_l ?_ | refine r_s ?_ | refine r_n fun _ => ?_ | refine r_end ?_ | refine e_r ?_ | refine e_j ?_ | refine e_true ?_ | refine e_false ?_ | refine r_tt ?_ | refine r_ff ?_ | refine e_tt ?_ | refine e_ff ?_)
      have e1 : onsTo bits (i + 1) = onsTo bits i ++ [i] := by rw [onsTo_succ, hb]; rfl
      refine r_x (bitmap_next b (i + 1) bits (by omega)) fun r hr => ?_
      repeat (first | refine r_p ?_ | refine r_l ?_ | refine r_s ?_ | refine r_n fun _ => ?_ | refine r_end ?_ | refine e_r ?_ | refine e_j ?_ | refine e_true ?_ | refine e_false ?_ | refine r_tt ?_ | refine r_ff ?_ | refine e_tt ?_ | refine e_ff ?_)
      have hge := hr.ge
      refine e_next r ⟨hr.le, hr.yes⟩ (by omega) (by repeat (first | exact le_nil | refine le_cons ?_)) ?_
      rw [onsTo_nx hr, e1]
      (refine Prm.ent ?_; repeat (first | exact Prm.refl _ | (apply Prm.take; repeat (first | exact Sel.here _ _ | apply Sel.there)) | refine Prm.drop ?_))
    · refine r_nm ?_
      repeat (first | refine r_p ?_ | refine r_l ?_ | refine r_s ?_ | refine r_n fun _ => ?_ | refine r_end ?_ | refine e_r ?_ | refine e_j ?_ | refine e_true ?_ | refine e_false ?_ | refine r_tt ?_ | refine r_ff ?_ | refine e_tt ?_ | refine e_ff ?_)
      refine e_ret ⟨_, ⟨rfl, .inr ⟨_, i, rest, hs, rfl⟩⟩, ?_⟩
      (refine Prm.ent ?_; repeat (first | exact Prm.refl _ | (apply Prm.take; repeat (first | exact Sel.here _ _ | apply Sel.there)) | refine Prm.drop ?_))
  · refine Ex.ent (H' := bmR b bits :: J (onsTo bits i) :: cl c [ptr b] 257 :: R) ?_ ?_
    rotate_left
    · refine n_s g hok ?_
      (refine Prm.ent ?_; repeat (first | exact Prm.refl _ | (apply Prm.take; repeat (first | exact Sel.here _ _ | apply Sel.there)) | refine Prm.drop ?_))
    repeat (first | refine r_p ?_ | refine r_l ?_ | refine r_s ?_ | refine r_n fun _ => ?_ | refine r_end ?_ | refine e_r ?_ | refine e_j ?_ | refine e_true ?_ | refine e_false ?_ | refine r_tt ?_ | refine r_ff ?_ | refine e_tt ?_ | refine e_ff ?_)
    have e1 : i = bits.length := by omega
    subst e1
    refine e_ret ⟨_, ⟨rfl, .inl rfl⟩, ?_⟩
    (refine Prm.ent ?_; repeat (first | exact Prm.refl _ | (apply Prm.take; repeat (first | exact Sel.here _ _ | apply Sel.there)) | refine Prm.drop ?_))

theorem bitmap_All (b : Nat) : Ct Tryz.prog 192 [ptr b] [] (exi (fun c : Nat => .func (.func 264) #[] #[ptr c]) (fun c => [cl c [ptr b] 257]) (fun _ => True)) := by
  refine ct_intro Tryz.func192 rfl Tryz.ntmps192 Tryz.results192 fun R => e_nf ?_
  repeat (first | refine r_p ?_ | refine r_l ?_ | refine r_s ?_ | refine r_n fun _ => ?_ | refine r_end ?_ | refine e_r ?_ | refine e_j ?_ | refine e_true ?_ | refine e_false ?_ | refine r_tt ?_ | refine r_ff ?_ | refine e_tt ?_ | refine e_ff ?_)
  refine e_retx _ trivial ?_
  (refine Prm.ent ?_; repeat (first | exact Prm.refl _ | (apply Prm.take; repeat (first | exact Sel.here _ _ | apply Sel.there)) | refine Prm.drop ?_))

theorem bitmap_Run (b n : Nat) (bits : List Bool) (hn : 1 ≤ n) (hn2 : n ≤ 1048576) :
    Ct Tryz.prog 300 [ptr b, it n] [bmR b bits] (exi (fun r : Option Nat => match r with | some r => .tuple #[it (r : Int), .bool true] | none => .tuple #[it 0, .bool false]) (fun _ => [bmR b bits])
      (fun r => match r with
        | some r => r + n ≤ bits.length ∧ (∀ j, r ≤ j → j < r + n → bits.getD j false = false) ∧ ∀ s, s < r → s + n ≤ bits.length → ∃ j, s ≤ j ∧ j < s + n ∧ bits.getD j false = true
        | none => ∀ r, r + n ≤ bits.length → ∃ j, r ≤ j ∧ j < r + n ∧ bits.getD j false = true)) := by
  refine ct_intro Tryz.func300 rfl Tryz.ntmps300 Tryz.results300 fun R => e_nf ?_
  refine e_o (by repeat (first | exact Sel.here _ _ | apply Sel.there)) fun g hok => ?_
  have hmost := hok.most
  refine Ex.ent (H' := bmR b bits :: R) ?_ ?_
  rotate_left
  · refine n_s g hok ?_
    (refine Prm.ent ?_; repeat (first | exact Prm.refl _ | (apply Prm.take; repeat (first | exact Sel.here _ _ | apply Sel.there)) | refine Prm.drop ?_))
  repeat (first | refine r_p ?_ | refine r_l ?_ | refine r_s ?_ | refine r_n fun _ => ?_ | refine r_end ?_ | refine e_r ?_ | refine e_j ?_ | refine e_true ?_ | refine e_false ?_ | refine r_tt ?_ | refine r_ff ?_ | refine e_tt ?_ | refine e_ff ?_)
  refine r_x (bitmap_First b 0 bits (by omega)) fun r hr => ?_
  repeat (first | refine r_p ?_ | refine r_l ?_ | refine r_s ?_ | refine r_n fun _ => ?_ | refine r_end ?_ | refine e_r ?_ | refine e_j ?_ | refine e_true ?_ | refine e_false ?_ | refine r_tt ?_ | refine r_ff ?_ | refine e_tt ?_ | refine e_ff ?_)
  refine e_loop (fun r => r ≤ bits.length ∧ (r < bits.length → bits.getD r false = false) ∧ ∀ s, s < r → s + n ≤ bits.length → ∃ j, s ≤ j ∧ j < s + n ∧ bits.getD j false = true)
    (fun r => ⟨32, [(0, ptr b), (1, it n), (4, it 0), (5, .bool false), (6, it (if r < bits.length then (r : Int) else 0)), (7, .bool (decide (r < bits.length)))], []⟩) (fun _ => bmR b bits :: R) (fun r => bits.length - r) r
    ⟨hr.le, hr.yes, fun s hs _ => ⟨s, Nat.le_refl _, by omega, by simpa using hr.no s (Nat.zero_le _) hs⟩⟩ (by repeat (first | exact le_nil | refine le_cons ?_)) (by (refine Prm.ent ?_; repeat (first | exact Prm.refl _ | (apply Prm.take; repeat (first | exact Sel.here _ _ | apply Sel.there)) | refine Prm.drop ?_))) fun r hφ => ?_
  obtain ⟨h1, h2, h3⟩ := hφ
  repeat (first | refine r_p ?_ | refine r_l ?_ | refine r_s ?_ | refine r_n fun _ => ?_ | refine r_end ?_ | refine e_r ?_ | refine e_j ?_ | refine e_true ?_ | refine e_false ?_ | refine r_tt ?_ | refine r_ff ?_ | refine e_tt ?_ | refine e_ff ?_)
  refine e_if (fun h => ?_) (fun h => ?_)
  · rw [if_pos h]
    have hb := h2 h
    repeat (first | refine r_p ?_ | refine r_l ?_ | refine r_s ?_ | refine r_n fun _ => ?_ | refine r_end ?_ | refine e_r ?_ | refine e_j ?_ | refine e_true ?_ | refine e_false ?_ | refine r_tt ?_ | refine r_ff ?_ | refine e_tt ?_ | refine e_ff ?_)
    refine r_x (bitmap_next b r bits h1) fun e he => ?_
    have hge := he.ge; have hle := he.le
    have hgt : r < e := by
      rcases Nat.lt_or_ge r e with h' | h'
      · exact h'
      · have e1 : e = r := by omega
        subst e1
        have := he.yes h
        rw [hb] at this; cases this
    repeat (first | refine r_p ?_ | refine r_l ?_ | refine r_s ?_ | refine r_n fun _ => ?_ | refine r_end ?_ | refine e_r ?_ | refine e_j ?_ | refine e_true ?_ | refine e_false ?_ | refine r_tt ?_ | refine r_ff ?_ | refine e_tt ?_ | refine e_ff ?_)
    refine e_if (fun h4 => ?_) (fun h4 => ?_)
    · repeat (first | refine r_p ?_ | refine r_l ?_ | refine r_s ?_ | refine r_n fun _ => ?_ | refine r_end ?_ | refine e_r ?_ | refine e_j ?_ | refine e_true ?_ | refine e_false ?_ | refine r_tt ?_ | refine r_ff ?_ | refine e_tt ?_ | refine e_ff ?_)
      refine e_retx (some r) ⟨by omega, fun j h5 h6 => by simpa using he.no j h5 (by omega), h3⟩ ?_
      (refine Prm.ent ?_; repeat (first | exact Prm.refl _ | (apply Prm.take; repeat (first | exact Sel.here _ _ | apply Sel.there)) | refine Prm.drop ?_))
    · repeat (first | refine r_p ?_ | refine r_l ?_ | refine r_s ?_ | refine r_n fun _ => ?_ | refine r_end ?_ | refine e_r ?_ | refine e_j ?_ | refine e_true ?_ | refine e_false ?_ | refine r_tt ?_ | refine r_ff ?_ | refine e_tt ?_ | refine e_ff ?_)
      refine r_x (bitmap_First b e bits hle) fun r2 hr2 => ?_
      repeat (first | refine r_p ?_ | refine r_l ?_ | refine r_s ?_ | refine r_n fun _ => ?_ | refine r_end ?_ | refine e_r ?_ | refine e_j ?_ | refine e_true ?_ | refine e_false ?_ | refine r_tt ?_ | refine r_ff ?_ | refine e_tt ?_ | refine e_ff ?_)
      have hge2 := hr2.ge
      refine e_next r2 ⟨hr2.le, hr2.yes, fun s hs hsn => ?_⟩ (by omega) (by repeat (first | exact le_nil | refine le_cons ?_)) ?_
      · by_cases h5 : s < r
        · exact h3 s h5 hsn
        · by_cases h6 : s < e
          · exact ⟨e, by omega, by omega, he.yes (by omega)⟩
          · exact ⟨s, Nat.le_refl _, by omega, by simpa using hr2.no s (by omega) hs⟩
      (refine Prm.ent ?_; repeat (first | exact Prm.refl _ | (apply Prm.take; repeat (first | exact Sel.here _ _ | apply Sel.there)) | refine Prm.drop ?_))
  · repeat (first | refine r_p ?_ | refine r_l ?_ | refine r_s ?_ | refine r_n fun _ => ?_ | refine r_end ?_ | refine e_r ?_ | refine e_j ?_ | refine e_true ?_ | refine e_false ?_ | refine r_tt ?_ | refine r_ff ?_ | refine e_tt ?_ | refine e_ff ?_)
    refine e_retx none (fun s hs => h3 s (by omega) hs) ?_
    (refine Prm.ent ?_; repeat (first | exact Prm.refl _ | (apply Prm.take; repeat (first | exact Sel.here _ _ | apply Sel.there)) | refine Prm.drop ?_))

/-- the first run of n that are off -/
def firstRun (bits : List Bool) (n : Nat) : Option Nat := (List.range (bits.length + 1 - n)).find? fun r => (List.range n).all fun j => !bits.getD (r + j) false
theorem offs_iff (bits : List Bool) (r n : Nat) : ((List.range n).all fun j => !bits.getD (r + j) false) = true ↔ ∀ j, r ≤ j → j < r + n → bits.getD j false = false := by
  simp only [List.all_eq_true, List.mem_range, Bool.not_eq_true']
  exact ⟨fun h j h1 h2 => by have := h (j - r) (by omega); rwa [show r + (j - r) = j by omega] at this, fun h j hj => h _ (by omega) (by omega)⟩
theorem firstRun_some {bits : List Bool} {n r : Nat} (h : r + n ≤ bits.length) (h1 : ∀ j, r ≤ j → j < r + n → bits.getD j false = false) (h2 : ∀ s, s < r → s + n ≤ bits.length → ∃ j, s ≤ j ∧ j < s + n ∧ bits.getD j false = true) : firstRun bits n = some r := by
  unfold firstRun
  rw [List.find?_range_eq_some]
  refine ⟨(offs_iff bits r n).2 h1, by simp; omega, fun s hs => ?_⟩
  obtain ⟨j, j1, j2, j3⟩ := h2 s hs (by omega)
  rw [Bool.not_eq_true', ← Bool.not_eq_true, offs_iff]
  intro h
  rw [h j j1 j2] at j3; cases j3
theorem firstRun_none {bits : List Bool} {n : Nat} (h : ∀ r, r + n ≤ bits.length → ∃ j, r ≤ j ∧ j < r + n ∧ bits.getD j false = true) : firstRun bits n = none := by
  unfold firstRun
  rw [List.find?_range_eq_none]
  intro s hs
  obtain ⟨j, j1, j2, j3⟩ := h s (by omega)
  rw [Bool.not_eq_true', ← Bool.not_eq_true, offs_iff]
  intro h
  rw [h j j1 j2] at j3; cases j3
theorem firstRun_le {bits : List Bool} {n r : Nat} (h : firstRun bits n = some r) : r + n ≤ bits.length ∧ (∀ j, r ≤ j → j < r + n → bits.getD j false = false) ∧ ∀ s, s < r → s + n ≤ bits.length → ∃ j, s ≤ j ∧ j < s + n ∧ bits.getD j false = true := by
  unfold firstRun at h
  rw [List.find?_range_eq_some] at h
  obtain ⟨h1, h2, h3⟩ := h
  have h2 := List.mem_range.1 h2
  refine ⟨by omega, (offs_iff bits r n).1 h1, fun s hs hn => ?_⟩
  have := h3 s hs
  rw [Bool.not_eq_true', ← Bool.not_eq_true, offs_iff] at this
  apply Classical.byContradiction
  intro hne
  apply this
  intro j j1 j2
  cases hb : bits.getD j false with
  | false => rfl
  | true => exact absurd ⟨j, j1, j2, hb⟩ hne
def runV : Option Nat → Value
  | some r => .tuple #[it (r : Int), .bool true]
  | none => .tuple #[it 0, .bool false]
theorem bitmap_run (b n : Nat) (bits : List Bool) (hn : 1 ≤ n) (hn2 : n ≤ 1048576) : Ct Tryz.prog 300 [ptr b, it n] [bmR b bits] (det (runV (firstRun bits n)) [bmR b bits]) :=
  (bitmap_Run b n bits hn hn2).mono fun v L ⟨x, hx, e1, e2⟩ => by
    subst e1 e2
    cases x with
    | none => rw [firstRun_none hx]; exact ⟨rfl, rfl⟩
    | some r => rw [firstRun_some hx.1 hx.2.1 hx.2.2]; exact ⟨rfl, rfl⟩

/-- an iterator: function f over us and cs; A0 is its own, of which it lends A; it tells xs -/
def SeqC {α : Type} (P : Program) (f : FuncId) (us cs : List Value) (A0 A : List SP) (enc : α → List Value) (xs : List α) : Prop :=
  ∀ (fv : Value) (J X : List α → SP), YieldOk P fv A enc xs J X → Ct P f (us ++ ([fv] ++ cs)) (J [] :: A0) (SeqEnd A0 xs J X)

theorem bitmap_All1_seq (b c : Nat) (bits : List Bool) : SeqC Tryz.prog 264 [] [ptr c] [cl c [ptr b] 257, bmR b bits] [bmR b bits] (fun i : Nat => [it (i : Int)]) (ons bits) :=
  fun fv J X hy => bitmap_All1 b c bits fv J X hy

