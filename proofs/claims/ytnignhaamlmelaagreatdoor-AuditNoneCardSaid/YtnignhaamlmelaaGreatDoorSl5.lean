/- The quiet operations, by computing: what an operation yields from what is known of the temporaries, and what must hold for that. -/
import Derived.Test.YtnignhaamlmelaaGreatDoorSl4
namespace Go.Sl
open Go

/-! ### Numbers -/
theorem wrap_u64 (a : Nat) : IntKind.u64.wrap (a : Int) = ((a % 2 ^ 64 : Nat) : Int) := by
  simp [IntKind.wrap, IntKind.bits, IntKind.signed]
theorem ofInt_nat (a : Nat) : BitVec.ofInt 64 (a : Int) = BitVec.ofNat 64 a := by simp
section
variable {P : Program}
theorem bits_and {a b : Nat} (ha : a < 2 ^ 64) (hb : b < 2 ^ 64) (w : World) : (Op.intBits .and .u64 (a : Int) (b : Int)).run P w = .ok (.int .u64 ((a &&& b : Nat) : Int)) w := by
  have h1 : a % 2 ^ 64 = a := Nat.mod_eq_of_lt ha
  have h2 : b % 2 ^ 64 = b := Nat.mod_eq_of_lt hb
  have h3 : a &&& b < 2 ^ 64 := Nat.lt_of_le_of_lt Nat.and_le_left ha
  have e : (BitVec.ofInt IntKind.u64.bits (a : Int) &&& BitVec.ofInt IntKind.u64.bits (b : Int)).toNat = a &&& b := by
    show (BitVec.ofInt 64 (a : Int) &&& BitVec.ofInt 64 (b : Int)).toNat = a &&& b
    rw [ofInt_nat, ofInt_nat, BitVec.toNat_and, BitVec.toNat_ofNat, BitVec.toNat_ofNat, h1, h2]
  simp only [Op.intBits, e, Sem.run_pure, wrap_u64, Nat.mod_eq_of_lt h3]
theorem bits_or {a b : Nat} (ha : a < 2 ^ 64) (hb : b < 2 ^ 64) (w : World) : (Op.intBits .or .u64 (a : Int) (b : Int)).run P w = .ok (.int .u64 ((a ||| b : Nat) : Int)) w := by
  have h1 : a % 2 ^ 64 = a := Nat.mod_eq_of_lt ha
  have h2 : b % 2 ^ 64 = b := Nat.mod_eq_of_lt hb
  have h3 : a ||| b < 2 ^ 64 := Nat.or_lt_two_pow ha hb
  have e : (BitVec.ofInt IntKind.u64.bits (a : Int) ||| BitVec.ofInt IntKind.u64.bits (b : Int)).toNat = a ||| b := by
    show (BitVec.ofInt 64 (a : Int) ||| BitVec.ofInt 64 (b : Int)).toNat = a ||| b
    rw [ofInt_nat, ofInt_nat, BitVec.toNat_or, BitVec.toNat_ofNat, BitVec.toNat_ofNat, h1, h2]
  simp only [Op.intBits, e, Sem.run_pure, wrap_u64, Nat.mod_eq_of_lt h3]
theorem bits_xor {a b : Nat} (ha : a < 2 ^ 64) (hb : b < 2 ^ 64) (w : World) : (Op.intBits .xor .u64 (a : Int) (b : Int)).run P w = .ok (.int .u64 ((a ^^^ b : Nat) : Int)) w := by
  have h1 : a % 2 ^ 64 = a := Nat.mod_eq_of_lt ha
  have h2 : b % 2 ^ 64 = b := Nat.mod_eq_of_lt hb
  have h3 : a ^^^ b < 2 ^ 64 := Nat.xor_lt_two_pow ha hb
  have e : (BitVec.ofInt IntKind.u64.bits (a : Int) ^^^ BitVec.ofInt IntKind.u64.bits (b : Int)).toNat = a ^^^ b := by
    show (BitVec.ofInt 64 (a : Int) ^^^ BitVec.ofInt 64 (b : Int)).toNat = a ^^^ b
    rw [ofInt_nat, ofInt_nat, BitVec.toNat_xor, BitVec.toNat_ofNat, BitVec.toNat_ofNat, h1, h2]
  simp only [Op.intBits, e, Sem.run_pure, wrap_u64, Nat.mod_eq_of_lt h3]
theorem bits_andNot {a b : Nat} (ha : a < 2 ^ 64) (hb : b < 2 ^ 64) (w : World) : (Op.intBits .andNot .u64 (a : Int) (b : Int)).run P w = .ok (.int .u64 ((a &&& (2 ^ 64 - 1 - b) : Nat) : Int)) w := by
  have h1 : a % 2 ^ 64 = a := Nat.mod_eq_of_lt ha
  have h2 : b % 2 ^ 64 = b := Nat.mod_eq_of_lt hb
  have h3 : a &&& (2 ^ 64 - 1 - b) < 2 ^ 64 := Nat.lt_of_le_of_lt Nat.and_le_left ha
  have e : (BitVec.ofInt IntKind.u64.bits (a : Int) &&& ~~~ BitVec.ofInt IntKind.u64.bits (b : Int)).toNat = a &&& (2 ^ 64 - 1 - b) := by
    show (BitVec.ofInt 64 (a : Int) &&& ~~~ BitVec.ofInt 64 (b : Int)).toNat = _
    rw [ofInt_nat, ofInt_nat, BitVec.toNat_and, BitVec.toNat_not, BitVec.toNat_ofNat, BitVec.toNat_ofNat, h1, h2]
  simp only [Op.intBits, e, Sem.run_pure, wrap_u64, Nat.mod_eq_of_lt h3]
theorem bits_com {a : Nat} (ha : a < 2 ^ 64) (w : World) : (Op.intBits .xor .u64 IntKind.u64.max (a : Int)).run P w = .ok (.int .u64 ((2 ^ 64 - 1 - a : Nat) : Int)) w := by
  have h1 := bits_xor (P := P) (a := 2 ^ 64 - 1) (b := a) (by decide) ha w
  have h2 : (2 ^ 64 - 1) ^^^ a = 2 ^ 64 - 1 - a := by
    have := BitVec.toNat_not (x := BitVec.ofNat 64 a)
    rw [← BitVec.allOnes_xor, BitVec.toNat_xor, BitVec.toNat_allOnes, BitVec.toNat_ofNat, Nat.mod_eq_of_lt ha] at this
    exact this
  rw [h2] at h1
  exact h1

def cmpC (op : BinOp) (a b : Int) : Option Bool := match op with
  | .eql => some (decide (a = b))
  | .neq => some (!decide (a = b))
  | .lss => some (decide (a < b))
  | .leq => some (decide (a ≤ b))
  | .gtr => some (decide (b < a))
  | .geq => some (decide (b ≤ a))
  | _ => none
def cmpN (op : BinOp) (a b : Nat) : Option Bool := match op with
  | .eql => some (decide (a = b))
  | .neq => some (!decide (a = b))
  | .lss => some (decide (a < b))
  | .leq => some (decide (a ≤ b))
  | .gtr => some (decide (b < a))
  | .geq => some (decide (b ≤ a))
  | _ => none
def natC : Int → Option Nat
  | .ofNat a => some a
  | _ => none
theorem natC_eq {i : Int} {a : Nat} (h : natC i = some a) : i = (a : Int) := by
  cases i <;> simp [natC] at h
  subst h; rfl
def i64C (op : BinOp) (a b : Int) : Option (Value × Prop) := match op with
  | .add => some (.int .i64 (a + b), -9223372036854775808 ≤ a + b ∧ a + b ≤ 9223372036854775807)
  | .sub => some (.int .i64 (a - b), -9223372036854775808 ≤ a - b ∧ a - b ≤ 9223372036854775807)
  | .mul => some (.int .i64 (a * b), -9223372036854775808 ≤ a * b ∧ a * b ≤ 9223372036854775807)
  | .quo => match natC a, natC b with
    | some a', some b' => some (.int .i64 ((a' / b' : Nat) : Int), a ≤ 9223372036854775807 ∧ 1 ≤ b)
    | _, _ => none
  | .rem => match natC a, natC b with
    | some a', some b' => some (.int .i64 ((a' % b' : Nat) : Int), 1 ≤ b)
    | _, _ => none
  | op => match cmpC op a b with
    | some t => some (.bool t, True)
    | none => none
def u64C (op : BinOp) (ai bi : Int) (a b : Nat) : Option (Value × Prop) := match op with
  | .and => some (.int .u64 ((a &&& b : Nat) : Int), ai < 18446744073709551616 ∧ bi < 18446744073709551616)
  | .or => some (.int .u64 ((a ||| b : Nat) : Int), ai < 18446744073709551616 ∧ bi < 18446744073709551616)
  | .xor => some (.int .u64 ((a ^^^ b : Nat) : Int), ai < 18446744073709551616 ∧ bi < 18446744073709551616)
  | .andNot => some (.int .u64 ((a &&& (2 ^ 64 - 1 - b) : Nat) : Int), ai < 18446744073709551616 ∧ bi < 18446744073709551616)
  | .shl => some (.int .u64 ((a <<< b % 2 ^ 64 : Nat) : Int), bi ≤ 64)
  | .shr => some (.int .u64 ((a >>> b : Nat) : Int), bi ≤ 64)
  | .add => some (.int .u64 (((a + b) % 2 ^ 64 : Nat) : Int), True)
  | .mul => some (.int .u64 (((a * b) % 2 ^ 64 : Nat) : Int), True)
  | .sub => some (.int .u64 ((a - b : Nat) : Int), bi ≤ ai ∧ ai < 18446744073709551616)
  | .quo => some (.int .u64 ((a / b : Nat) : Int), 0 < bi ∧ ai < 18446744073709551616)
  | .rem => some (.int .u64 ((a % b : Nat) : Int), 0 < bi)
  | op => match cmpN op a b with
    | some t => some (.bool t, True)
    | none => none
/-- shifts of a word by an int -/
def shC (op : BinOp) (bi : Int) (a b : Nat) : Option (Value × Prop) := match op with
  | .shl => some (.int .u64 ((a <<< b % 2 ^ 64 : Nat) : Int), bi ≤ 64)
  | .shr => some (.int .u64 ((a >>> b : Nat) : Int), bi ≤ 64)
  | _ => none
/-- 32 bits: shifts to the right, order -/
def u32C (op : BinOp) (bi : Int) (a b : Nat) : Option (Value × Prop) := match op with
  | .shr => some (.int .u32 ((a >>> b : Nat) : Int), bi ≤ 32)
  | op => match cmpN op a b with
    | some t => some (.bool t, True)
    | none => none
def binC (op : BinOp) : Value → Value → Option (Value × Prop)
  | .int .i64 a, .int .i64 b => i64C op a b
  | .int .u64 a, .int .u64 b => match natC a, natC b with
    | some a', some b' => u64C op a b a' b'
    | _, _ => none
  | .int .u64 a, .int .i64 b => match natC a, natC b with
    | some a', some b' => shC op b a' b'
    | _, _ => none
  | .int .u32 a, .int .u32 b => match natC a, natC b with
    | some a', some b' => u32C op b a' b'
    | _, _ => none
  | .int .u32 a, .int .i64 b => match natC a, natC b, op with
    | some a', some b', .shr => some (.int .u32 ((a' >>> b' : Nat) : Int), b ≤ 32)
    | _, _, _ => none
  | _, _ => none

theorem cmpC_run {op : BinOp} {a b : Int} {t : Bool} (h : cmpC op a b = some t) (w : World) : (Op.intCmp op a b).run P w = .ok (.bool t) w := by
  cases op <;> simp only [cmpC, reduceCtorEq, Option.some.injEq] at h <;> subst h <;> simp [Op.intCmp, beq_dec, bne]
theorem cmpN_cmpC {op : BinOp} {a b : Nat} {t : Bool} (h : cmpN op a b = some t) : cmpC op (a : Int) (b : Int) = some t := by
  cases op <;> simp only [cmpN, reduceCtorEq, Option.some.injEq] at h <;> subst h <;> simp [cmpC, Int.natCast_inj]

theorem fdiv_shr (a b : Nat) : (a : Int).fdiv (2 ^ b) = ((a >>> b : Nat) : Int) := by
  rw [Int.fdiv_eq_ediv_of_nonneg _ (by exact Int.le_of_lt (Int.pow_pos (by decide)))]
  rw [Nat.shiftRight_eq_div_pow]; simp
theorem shift_shr {k kk : IntKind} {a b : Nat} (hb : b ≤ k.bits) (w : World) : (Op.shift .shr k (a : Int) kk (b : Int)).run P w = .ok (.int k ((a >>> b : Nat) : Int)) w := by
  have h0 : ¬ (b : Int) < 0 := by omega
  have h1 : min (b : Int).toNat k.bits = b := by simp; omega
  have h1' : min b k.bits = b := by omega
  simp [Op.shift, h0, h1', fdiv_shr]
theorem shift_shl {kk : IntKind} {a b : Nat} (hb : b ≤ 64) (w : World) : (Op.shift .shl .u64 (a : Int) kk (b : Int)).run P w = .ok (.int .u64 ((a <<< b % 2 ^ 64 : Nat) : Int)) w := by
  have h0 : ¬ (b : Int) < 0 := by omega
  have h1' : min b 64 = b := by omega
  have h2 : IntKind.u64.wrap ((a : Int) * 2 ^ b) = ((a <<< b % 2 ^ 64 : Nat) : Int) := by
    rw [← wrap_u64, Nat.shiftLeft_eq]; congr 1
  simp [Op.shift, h0, IntKind.bits, h1', h2]

theorem i64C_run {op : BinOp} {a b : Int} {v : Value} {c : Prop} (h : i64C op a b = some (v, c)) (hc : c) (t : TypeId) (w : World) : (binOp op t (.int .i64 a) (.int .i64 b)).run P w = .ok v w := by
  cases op <;> simp only [i64C, Option.some.injEq, Prod.mk.injEq, cmpC, reduceCtorEq] at h
  case quo =>
    split at h
    · rename_i _ _ a' b' ha hb
      obtain rfl := natC_eq ha
      obtain rfl := natC_eq hb
      cases h
      have := IntWalk.i64_quo (a' : Int) (b' : Int) ⟨by omega, hc.1, hc.2⟩
      rw [Int.tdiv_eq_ediv_of_nonneg (by omega)] at this
      simp [binOp, Op.intDiv, show ¬ (b' : Int) = 0 by omega, show ¬ b' = 0 by omega, this]
    · cases h
  case rem =>
    split at h
    · rename_i _ _ a' b' ha hb
      obtain rfl := natC_eq ha
      obtain rfl := natC_eq hb
      cases h
      have := IntWalk.rem_in (a' : Int) (b' : Int) (by omega)
      simp [binOp, Op.intDiv, show ¬ (b' : Int) = 0 by omega, show ¬ b' = 0 by omega, this]
    · cases h
  all_goals first
    | cases h; done
    | obtain ⟨rfl, rfl⟩ := h
      first
        | simp [binOp, Op.intArith, IntWalk.i64_in _ hc]; done
        | simp [binOp, Op.intCmp, beq_dec, bne]; done

theorem u64C_run {op : BinOp} {a b : Nat} {v : Value} {c : Prop} (h : u64C op (a : Int) (b : Int) a b = some (v, c)) (hc : c) (t : TypeId) (w : World) : (binOp op t (.int .u64 (a : Int)) (.int .u64 (b : Int))).run P w = .ok v w := by
  cases op <;> simp only [u64C, Option.some.injEq, Prod.mk.injEq, cmpN, reduceCtorEq] at h
  case add =>
    obtain ⟨rfl, rfl⟩ := h
    have h := wrap_u64 (a + b); rw [Int.natCast_add] at h
    simp only [binOp, Op.intArith, h]; simp
  case mul =>
    obtain ⟨rfl, rfl⟩ := h
    have h := wrap_u64 (a * b); rw [Int.natCast_mul] at h
    simp only [binOp, Op.intArith, h]; simp
  case sub =>
    obtain ⟨rfl, rfl⟩ := h
    have hle : b ≤ a := by omega
    have h := wrap_u64 (a - b); rw [Int.natCast_sub hle, Nat.mod_eq_of_lt (by omega)] at h
    simp only [binOp, Op.intArith, h]; simp
  case quo =>
    obtain ⟨rfl, rfl⟩ := h
    have h := wrap_u64 (a / b)
    have hle : a / b ≤ a := Nat.div_le_self _ _
    rw [Nat.mod_eq_of_lt (by omega)] at h
    have h2 : ¬ ((b : Int) = 0) := by omega
    have h3 : (a : Int).tdiv (b : Int) = ((a / b : Nat) : Int) := rfl
    simp only [binOp, Op.intDiv, h2, h3, h]; simp
  case rem =>
    obtain ⟨rfl, rfl⟩ := h
    have h2 : ¬ ((b : Int) = 0) := by omega
    have h3 : (a : Int).tmod (b : Int) = ((a % b : Nat) : Int) := rfl
    simp only [binOp, Op.intDiv, h2, h3]; simp
  case and => obtain ⟨rfl, rfl⟩ := h; simp [binOp, bits_and (show a < 2 ^ 64 by omega) (show b < 2 ^ 64 by omega)]
  case or => obtain ⟨rfl, rfl⟩ := h; simp [binOp, bits_or (show a < 2 ^ 64 by omega) (show b < 2 ^ 64 by omega)]
  case xor => obtain ⟨rfl, rfl⟩ := h; simp [binOp, bits_xor (show a < 2 ^ 64 by omega) (show b < 2 ^ 64 by omega)]
  case andNot => obtain ⟨rfl, rfl⟩ := h; simp [binOp, bits_andNot (show a < 2 ^ 64 by omega) (show b < 2 ^ 64 by omega)]
  case shl => obtain ⟨rfl, rfl⟩ := h; simp only [binOp]; exact shift_shl (by omega) w
  case shr => obtain ⟨rfl, rfl⟩ := h; simp only [binOp]; exact shift_shr (by show b ≤ 64; omega) w
  all_goals first
    | cases h; done
    | obtain ⟨rfl, rfl⟩ := h; simp [binOp, Op.intCmp, bne, beq_dec, Int.natCast_inj]

theorem binC_run {op : BinOp} {x y v : Value} {c : Prop} (h : binC op x y = some (v, c)) (hc : c) (t : TypeId) (w : World) : (binOp op t x y).run P w = .ok v w := by
  unfold binC at h
  split at h
  · exact i64C_run h hc t w
  · split at h
    · rename_i ha hb
      obtain rfl := natC_eq ha
      obtain rfl := natC_eq hb
      exact u64C_run h hc t w
    · cases h
  · split at h
    · rename_i ha hb
      obtain rfl := natC_eq ha
      obtain rfl := natC_eq hb
      cases op <;> simp only [shC, Option.some.injEq, Prod.mk.injEq, reduceCtorEq] at h
      · obtain ⟨rfl, rfl⟩ := h; simp only [binOp]; exact shift_shl (by omega) w
      · obtain ⟨rfl, rfl⟩ := h; simp only [binOp]; exact shift_shr (Int.ofNat_le.1 hc) w
    · cases h
  · split at h
    · rename_i ha hb
      obtain rfl := natC_eq ha
      obtain rfl := natC_eq hb
      cases op <;> simp only [u32C, Option.some.injEq, Prod.mk.injEq, cmpN, reduceCtorEq] at h
      case shr => obtain ⟨rfl, rfl⟩ := h; simp only [binOp]; exact shift_shr (Int.ofNat_le.1 hc) w
      all_goals obtain ⟨rfl, rfl⟩ := h; simp [binOp, Op.intCmp, bne, beq_dec, Int.natCast_inj]
    · cases h
  · split at h
    · rename_i ha hb
      obtain rfl := natC_eq ha
      obtain rfl := natC_eq hb
      cases h
      simp only [binOp]; exact shift_shr (Int.ofNat_le.1 hc) w
    · cases h
  · cases h
end

/-! ### Operations -/
def isScal : TyK → Bool
  | .arr .. | .str _ => false
  | _ => true
def pvC (τ : TypeId → Option TyI) (e : Env) : Op → Option (Value × Prop)
  | .move x => match e.ev x with
    | some v => some (v, True)
    | none => none
  | .assign x => match e.ev x with
    | some v => some (v, True)
    | none => none
  | .pick c x y => match e.ev c with
    | some (.bool true) => match e.ev x with
      | some v => some (v, True)
      | none => none
    | some (.bool false) => match e.ev y with
      | some v => some (v, True)
      | none => none
    | _ => none
  | .extract x j => match e.ev x with
    | some (.tuple vs) => match lget vs.toList j with
      | some v => some (v, True)
      | none => none
    | _ => none
  | .unOp .not _ x => match e.ev x with
    | some (.bool b) => some (.bool (!b), True)
    | _ => none
  | .unOp .xor _ x => match e.ev x with
    | some (.int .u64 a) => match natC a with
      | some a' => some (.int .u64 ((2 ^ 64 - 1 - a' : Nat) : Int), a < 18446744073709551616)
      | none => none
    | _ => none
  | .unOp .neg _ x => match e.ev x with
    | some (.int .u64 a) => match natC a with
      | some a' => some (.int .u64 (((2 ^ 64 - a') % 2 ^ 64 : Nat) : Int), a < 18446744073709551616)
      | none => none
    | _ => none
  | .makeFunc f xs ys => match evs e xs.toList, evs e ys.toList with
    | some us, some vs => some (.func f us.toArray vs.toArray, True)
    | _, _ => none
  | .binOp op t x y _ => match e.ev x, e.ev y with
    | some (.int k a), some (.int k' b) => binC op (.int k a) (.int k' b)
    | some (.bool a), some (.bool b) => match τ t, op with
      | some ⟨.bool, _, _, _, _⟩, .eql => some (.bool (a == b), True)
      | some ⟨.bool, _, _, _, _⟩, .neq => some (.bool (!(a == b)), True)
      | _, _ => none
    | some (.pointer a), some (.pointer none) => match τ t, op with
      | some ⟨.ptr, _, _, _, _⟩, .eql => some (.bool a.isNone, True)
      | some ⟨.ptr, _, _, _, _⟩, .neq => some (.bool (!a.isNone), True)
      | _, _ => none
    | some (.slice a l c), some (.slice none 0 0) => match τ t, op with
      | some ⟨.slice .., _, _, _, _⟩, .eql => some (.bool a.isNone, True)
      | some ⟨.slice .., _, _, _, _⟩, .neq => some (.bool (!a.isNone), True)
      | _, _ => none
    | some (.map a), some (.map none) => match τ t, op with
      | some ⟨.map .., _, _, _, _⟩, .eql => some (.bool a.isNone, True)
      | some ⟨.map .., _, _, _, _⟩, .neq => some (.bool (!a.isNone), True)
      | _, _ => none
    | _, _ => none
  | .convert s t x => match τ s, τ t, e.ev x with
    | some ⟨.int .i64, _, _, _, _⟩, some ⟨.int .i64, _, _, _, _⟩, some (.int .i64 a) => some (.int .i64 a, -9223372036854775808 ≤ a ∧ a ≤ 9223372036854775807)
    | some ⟨.int .i64, _, _, _, _⟩, some ⟨.int .u64, _, _, _, _⟩, some (.int .i64 a) => some (.int .u64 (a.toNat : Int), 0 ≤ a ∧ a < 18446744073709551616)
    | some ⟨.int _, _, _, _, _⟩, some ⟨.int k, _, _, _, _⟩, some (.int _ a) => match natC a with
      | some a' => match k with
        | .i64 => some (.int .i64 (a' : Int), a < 9223372036854775808)
        | .u64 => some (.int .u64 (a' : Int), a < 18446744073709551616)
        | .u32 => some (.int .u32 ((a' % 4294967296 : Nat) : Int), True)
        | .u8 => some (.int .u8 ((a' % 256 : Nat) : Int), True)
        | _ => none
      | none => none
    | _, _, _ => none
  | .nilCheck x => match e.ev x with
    | some (.pointer (some a)) => some (.pointer (some a), True)
    | _ => none
  | .fieldAddr t x f => match τ t, e.ev x with
    | some ⟨.str fs, _, _, _, _⟩, some (.pointer (some ⟨b, o, none⟩)) => match lget fs f with
      | some (off, _, _) => some (.pointer (some ⟨b, o + off, none⟩), True)
      | none => none
    | _, _ => none
  | .field t x f => match τ t, e.ev x with
    | some ⟨.str fs, _, _, _, _⟩, some (.agg vs) => match lget fs f with
      | some (off, ft, n) => match τ ft with
        | some i => match isScal i.k with
          | true => match lget vs.toList off with
            | some v => some (v, True)
            | none => none
          | false => match subC vs.toList off n with
            | some us => some (.agg us.toArray, True)
            | none => none
        | none => none
      | none => none
    | _, _ => none
  | .indexAddr t x y => match τ t, e.ev x, e.ev y with
    | some ⟨.slice _ s _ _, _, _, _, _⟩, some (.slice (some ⟨b, o, none⟩) l _), some (.int _ a) => match natC a, s, o with
      | some j, 1, 0 => some (.pointer (some ⟨b, j, none⟩), a < (l : Int))
      | some j, s, o => some (.pointer (some ⟨b, o + j * s, none⟩), a < (l : Int))
      | none, _, _ => none
    | some ⟨.arr len _ s, _, _, _, _⟩, some (.pointer (some ⟨b, o, none⟩)), some (.int _ a) => match natC a, s, o with
      | some j, 1, 0 => some (.pointer (some ⟨b, j, none⟩), a < (len : Int))
      | some j, s, o => some (.pointer (some ⟨b, o + j * s, none⟩), a < (len : Int))
      | none, _, _ => none
    | _, _, _ => none
  | .build t parts => match τ t, evps e parts.toList with
    | some ⟨.str fs, _, zc, _, _⟩, some us => match fillC fs zc us with
      | some vs => some (.agg vs.toArray, True)
      | none => none
    | _, _ => none
  | .call ⟨.builtin .len, args, ts⟩ => match args.toList, ts.toList with
    | [x], [t] => match τ t, e.ev x with
      | some ⟨.slice .., _, _, _, _⟩, some (.slice _ l _) => some (.int .i64 (l : Int), True)
      | _, _ => none
    | _, _ => none
  | .call ⟨.builtin .cap, args, ts⟩ => match args.toList, ts.toList with
    | [x], [t] => match τ t, e.ev x with
      | some ⟨.slice .., _, _, _, _⟩, some (.slice _ _ c) => some (.int .i64 (c : Int), True)
      | _, _ => none
    | _, _ => none
  | .call ⟨.builtin .max, args, _⟩ => match evs e args.toList with
    | some [.int .i64 a, .int .i64 b] => some (.int .i64 (max a b), True)
    | _ => none
  | .call ⟨.builtin .min, args, _⟩ => match evs e args.toList with
    | some [.int .i64 a, .int .i64 b] => some (.int .i64 (min a b), True)
    | _ => none
  | _ => none

section
variable {P : Program} {r : Option Nat}
theorem IntWalk.wrap_u64_eq (a : Int) : IntKind.u64.wrap a = a % 18446744073709551616 := by
  simp [IntKind.wrap, IntKind.bits, IntKind.signed]
theorem equal_bool {t : TypeId} (h : TBool P t) (a b : Bool) (w : World) : (Op.equal t (.bool a) (.bool b)).run P w = .ok (a == b) w := by
  unfold Op.equal Op.maxDepth Op.equalIn
  simp [run_underlying h.out]
theorem equal_nilp {t : TypeId} (h : TPtr P t) (a : Option Addr) (w : World) : (Op.equal t (.pointer a) (.pointer none)).run P w = .ok a.isNone w := by
  obtain ⟨el, h1⟩ := h.out
  unfold Op.equal Op.maxDepth Op.equalIn
  cases a <;> simp [run_underlying h1]
theorem equal_nils {t el : TypeId} {s b : Nat} {z : List Value} (h : TSlice P t el s b z) (a : Option Addr) (l c : Nat) (w : World) : (Op.equal t (.slice a l c) (.slice none 0 0)).run P w = .ok a.isNone w := by
  unfold Op.equal Op.maxDepth Op.equalIn
  cases a <;> simp [run_underlying h.out]
theorem equal_nilm {t kt et : TypeId} (h : TMap P t kt et) (a : Option Nat) (w : World) : (Op.equal t (.map a) (.map none)).run P w = .ok a.isNone w := by
  unfold Op.equal Op.maxDepth Op.equalIn
  cases a <;> simp [run_underlying h.out]
theorem tyFlds_get {t : TypeId} : ∀ (fs : List (Nat × TypeId × Nat)) (j f off n : Nat) (ft : TypeId), TyFlds P t j fs → fs[f]? = some (off, ft, n) → TFld P t (j + f) off ft n
  | [], _, _, _, _, _, _, h => by simp at h
  | (o, q, m) :: fs, j, 0, off, n, ft, h, e => by
    simp at e; obtain ⟨rfl, rfl, rfl⟩ := e; exact h.1
  | (o, q, m) :: fs, j, f + 1, off, n, ft, h, e => by
    have := tyFlds_get fs (j + 1) f off n ft h.2 (by simpa using e)
    rwa [show j + 1 + f = j + (f + 1) by omega] at this
theorem wrap_nat (k : IntKind) (h : k.signed = false) (a : Nat) : k.wrap (a : Int) = ((a % 2 ^ k.bits : Nat) : Int) := by
  simp [IntKind.wrap, h]
theorem extract_of {cs : List Value} {o n : Nat} {us : List Value} (h : subC cs o n = some us) : cs.toArray.extract o (o + n) = us.toArray := by
  obtain ⟨pre, post, e, h1, h2⟩ := subC_spec _ _ _ _ h
  apply Array.toList_inj.1
  simp only [List.extract_toArray, List.extract_eq_take_drop]
  subst h1; subst h2; rw [e]
  simp
theorem qp_of {o : Oper} {e : Env} {v : Value} (hd : ∀ c, o.op ≠ .defer c) (h : ∀ a w, Agree e a → (execOp a.eval o).run P w = .ok (.value v) w) : Qp P r o e v :=
  fun a w ha => by rw [Oper.semAt_eq _ _ _ hd]; exact h a w ha
theorem qt_of {o : Oper} {e : Env} {H : List SP} {v : Value} (hd : ∀ c, o.op ≠ .defer c) (h : ∀ a w, Agree e a → Sat H (heapOf w) → (execOp a.eval o).run P w = .ok (.value v) w) : Qt P r o e H v :=
  fun a w ha hs => by rw [Oper.semAt_eq _ _ _ hd]; exact h a w ha hs

theorem pvC_sound [T : Ty P] {o : Oper} {e : Env} {v : Value} {c : Prop} (h : pvC (tget T.tab) e o.op = some (v, c)) (hc : c) : Qp P r o e v := by
  obtain ⟨d, op, ty, pos, aft, g⟩ := o
  simp only at h
  unfold pvC at h
  split at h
  -- move
  · split at h
    · rename_i u hu; cases h; exact qp_of (by simp) fun a w ha => by simp [execOp, ha.ev hu]
    · cases h
  · split at h
    · rename_i u hu; cases h; exact qp_of (by simp) fun a w ha => by simp [execOp, ha.ev hu]
    · cases h
  -- pick
  · split at h
    · rename_i hb
      split at h
      · rename_i u hu; cases h; exact qp_of (by simp) fun a w ha => by simp [execOp, ha.ev hu, ha.ev hb, asBool]
      · cases h
    · rename_i hb
      split at h
      · rename_i u hu; cases h; exact qp_of (by simp) fun a w ha => by simp [execOp, ha.ev hu, ha.ev hb, asBool]
      · cases h
    · cases h
  -- extract
  · split at h
    · rename_i vs hvs
      split at h
      · rename_i u hu
        cases h
        rw [lget_eq] at hu
        exact qp_of (by simp) fun a w ha => by
          rw [Array.getElem?_toList] at hu
          simp [execOp, ha.ev hvs, Instr.extract, hu]
      · cases h
    · cases h
  -- not, xor, neg
  · split at h
    · rename_i b hb; cases h; exact qp_of (by simp) fun a w ha => by simp [execOp, ha.ev hb, Op.unary]
    · cases h
  · split at h
    · rename_i a hb
      split at h
      · rename_i a' ha'
        cases h
        rw [natC_eq ha'] at hb hc
        exact qp_of (by simp) fun c w ha => by
          have h4 : IntKind.u64.signed = false := rfl
          have hb' := ha.ev hb
          simp only [execOp, hb', Op.unary, h4, Bool.false_eq_true, if_false, Sem.run_bind]
          rw [bits_com (show a' < 2 ^ 64 by omega)]
          simp
      · cases h
    · cases h
  · split at h
    · rename_i a hb
      split at h
      · rename_i a' ha'
        cases h
        rw [natC_eq ha'] at hb hc
        exact qp_of (by simp) fun c w ha => by
          have hb' := ha.ev hb
          have : IntKind.u64.wrap (0 - (a' : Int)) = (((2 ^ 64 - a') % 2 ^ 64 : Nat) : Int) := by
            rw [IntWalk.wrap_u64_eq]
            omega
          simp only [execOp, hb', Op.unary, Op.intArith, this, Sem.run_bind]
          simp
      · cases h
    · cases h
  -- makeFunc
  · split at h
    · rename_i us vs hx hy
      cases h
      exact qp_of (by simp) fun a w ha => by simp [execOp, Instr.makeFunc, ha.evsA hx, ha.evsA hy]
    · cases h
  -- binOp
  · split at h
    · rename_i k a k' b hx hy
      exact qp_of (by simp) fun a' w ha => by
        have := binC_run (P := P) h hc
        simp [execOp, ha.ev hx, ha.ev hy, eqGuard, this]
    · rename_i a b hx hy
      split at h
      all_goals first
        | cases h; done
        | rename_i ht; cases h
          have hT := (ty_get ht).2.2.1
          exact qp_of (by simp) fun a' w ha => by simp [execOp, ha.ev hx, ha.ev hy, eqGuard, binOp, equal_bool hT]
    · rename_i a hx hy
      split at h
      all_goals first
        | cases h; done
        | rename_i ht; cases h
          have hT := (ty_get ht).2.2.1
          exact qp_of (by simp) fun a' w ha => by simp [execOp, ha.ev hx, ha.ev hy, eqGuard, binOp, equal_nilp hT]
    · rename_i a l c hx hy
      split at h
      all_goals first
        | cases h; done
        | rename_i ht; cases h
          have hT := (ty_get ht).2.2.1
          exact qp_of (by simp) fun a' w ha => by simp [execOp, ha.ev hx, ha.ev hy, eqGuard, binOp, equal_nils hT]
    · rename_i a hx hy
      split at h
      all_goals first
        | cases h; done
        | rename_i ht; cases h
          have hT := (ty_get ht).2.2.1
          exact qp_of (by simp) fun a' w ha => by simp [execOp, ha.ev hx, ha.ev hy, eqGuard, binOp, equal_nilm hT]
    · cases h
  -- convert
  · have key : ∀ {s t : TypeId} {x : Operand} {a b c' d' : _} {k k' k'' : IntKind} {i : Int} {a2 b2 c2 d2 : _}, tget T.tab s = some ⟨.int k, a, b, c', d'⟩ → tget T.tab t = some ⟨.int k', a2, b2, c2, d2⟩ → e.ev x = some (.int k'' i) →
        Qp P r ⟨d, .convert s t x, ty, pos, aft, g⟩ e (.int k' (k'.wrap i)) := fun hs ht hx => by
      have h1 := (ty_get hs).2.2.1
      have h2 := (ty_get ht).2.2.1
      exact qp_of (by simp) fun a w ha => by
        have h3 := run_underlying h1.out w
        have h4 := run_underlying h2.out w
        simp [execOp, ha.ev hx, convert, h3, h4, Conv.intToInt]
    split at h
    · rename_i hs ht hx
      cases h
      have := key hs ht hx
      rwa [IntWalk.i64_in _ hc] at this
    · rename_i hs ht hx
      cases h
      have := key hs ht hx
      rwa [IntWalk.u64_in _ (by omega), ← Int.toNat_of_nonneg hc.1] at this
    · rename_i hs ht hx
      split at h
      · rename_i a' ha'
        have := key hs ht hx
        rw [natC_eq ha'] at this h
        split at h <;> cases h
        · rwa [IntWalk.i64_in _ (by omega)] at this
        · rwa [IntWalk.u64_in _ (by omega)] at this
        · rwa [wrap_nat _ rfl] at this
        · rwa [wrap_nat _ rfl] at this
      · cases h
    · cases h
  -- nilCheck
  · split at h
    · rename_i a hx; cases h; exact qp_of (by simp) fun c w ha => by simp [execOp, ha.ev hx]
    · cases h
  -- fieldAddr
  · split at h
    · rename_i t x f _ _ fs z zc sz bz b o ht hx
      split at h
      · rename_i off ft n hf
        cases h
        rw [lget_eq] at hf
        obtain ⟨gs, fd, h1, h2, h3, h4, fi, h5, h6, h7⟩ := (by simpa using tyFlds_get fs 0 f off n ft (ty_get ht).2.2.2.2 hf : TFld P t f off ft n).out
        exact qp_of (by simp) fun c w ha => by
          have hs : (sizeOf fd.type).run P w = .ok n w := run_sizeOf ⟨fi, by rw [h4]; exact h5, h6⟩ w
          simp [execOp, ha.ev hx, Instr.fieldAt, run_underlying h1, h2, Instr.sureAddr, fieldPlace, hs, h7, h3, add_mk]
      · cases h
    · cases h
  -- field
  · split at h
    · rename_i t x f _ _ fs z zc sz bz vs ht hx
      split at h
      · rename_i off ft n hf
        rw [lget_eq] at hf
        obtain ⟨gs, fd, h1, h2, h3, h4, fi, h5, h6, h7⟩ := (by simpa using tyFlds_get fs 0 f off n ft (ty_get ht).2.2.2.2 hf : TFld P t f off ft n).out
        split at h
        · rename_i i hi
          have hI := ty_get hi
          obtain ⟨k, z', zc', sz', bz'⟩ := i
          split at h
          · rename_i hsc
            split at h
            · rename_i u hu
              cases h
              rw [lget_eq, Array.getElem?_toList] at hu
              have hS : TScal P ft := by cases k <;> simp [isScal] at hsc <;> first | exact hI.2.2 | exact hI.2.2.2
              exact qp_of (by simp) fun c w ha => by
                simp [execOp, ha.ev hx, Instr.field, run_underlying h1, h2, asAgg, part, h4, run_isAgg_scal hS, h3, hu]
            · cases h
          · rename_i hsc
            split at h
            · rename_i us hus
              cases h
              have hA : TAgg P ft sz' := by cases k <;> simp [isScal] at hsc <;> first | exact hI.2.2.2 | exact hI.2.2.2.1
              have e1 : vs = vs.toList.toArray := by simp
              exact qp_of (by simp) fun c w ha => by
                have h9 := extract_of hus
                simp only [Array.toArray_toList] at h9
                simp [execOp, ha.ev hx, Instr.field, run_underlying h1, h2, asAgg, part, h4, run_isAgg_agg hA, h3, run_sizeOf ⟨fi, h5, h6⟩, h9]
            · cases h
        · cases h
      · cases h
    · cases h
  -- indexAddr
  · have sl : ∀ {t x y el s bz z a1 a2 a3 a4 b o l c' k j}, tget T.tab t = some ⟨.slice el s bz z, a1, a2, a3, a4⟩ → e.ev x = some (.slice (some ⟨b, o, none⟩) l c') → e.ev y = some (.int k ((j : Nat) : Int)) → j < l →
        Qp P r ⟨d, .indexAddr t x y, ty, pos, aft, g⟩ e (.pointer (some ⟨b, o + j * s, none⟩)) := fun {t x y el s bz z a1 a2 a3 a4 b o l c' k j} ht hx hy hj => by
      have hT := (ty_get ht).2.2.1
      obtain ⟨ii, v, h1, _, _, h2, _⟩ := hT.info
      exact qp_of (by simp) fun c w ha => by
        simp [execOp, ha.ev hx, ha.ev hy, Instr.indexAt, asIntOf, run_underlying hT.out, hj, run_sizeOf ⟨ii, h1, h2⟩, add_mk]
    have ar : ∀ {t x y len el s a1 a2 a3 a4 b o k j}, tget T.tab t = some ⟨.arr len el s, a1, a2, a3, a4⟩ → e.ev x = some (.pointer (some ⟨b, o, none⟩)) → e.ev y = some (.int k ((j : Nat) : Int)) → j < len →
        Qp P r ⟨d, .indexAddr t x y, ty, pos, aft, g⟩ e (.pointer (some ⟨b, o + j * s, none⟩)) := fun {t x y len el s a1 a2 a3 a4 b o k j} ht hx hy hj => by
      have hT := (ty_get ht).2.2.1
      exact qp_of (by simp) fun c w ha => by
        simp [execOp, ha.ev hx, ha.ev hy, Instr.indexAt, asIntOf, run_underlying hT.out, hj, run_sizeOf hT.info, add_mk, Instr.sureAddr]
    split at h
    · rename_i ht hx hy
      split at h
      · rename_i ha'; rw [natC_eq ha'] at hy h; cases h; have := sl ht hx hy (by omega); simpa using this
      · rename_i ha' _; rw [natC_eq ha'] at hy h; cases h; exact sl ht hx hy (by omega)
      · cases h
    · rename_i ht hx hy
      split at h
      · rename_i ha'; rw [natC_eq ha'] at hy h; cases h; have := ar ht hx hy (by omega); simpa using this
      · rename_i ha' _; rw [natC_eq ha'] at hy h; cases h; exact ar ht hx hy (by omega)
      · cases h
    · cases h
  -- build
  · split at h
    · rename_i t parts _ _ fs z zc sz bz us ht hx
      split at h
      · rename_i vs hvs
        cases h
        have hT := (ty_get ht).2.2.1
        obtain ⟨gs, h1, h2'⟩ := hT.out
        obtain ⟨ii, zv, h3, h4, h5⟩ := hT.zero
        exact qp_of (by simp) fun c w ha => by
          have h2 := fun w => run_placesA (P := P) w h2'
          have hz : (zeroValue t).run P w = .ok zv w := by simp [zeroValue, run_typeInfo h3, h4]
          have e1 : (parts.map fun (x : Nat × Operand) => (x.1, c.eval x.2)).toList = us := by
            rw [Array.toList_map]; exact ha.evps hx
          have h6 := fillC_spec fs us zc vs hvs
          simp only [execOp, Instr.build, Sem.run_bind, hz, Result.andThen_ok, run_underlying h1, h2 w, e1]
          rw [h5, h6]
          simp
      · cases h
    · cases h
  -- len, cap, max, min
  · rename_i args ts
    split at h
    · rename_i x t hxs hts
      have e1 : args = #[x] := Array.toList_inj.1 hxs
      have e2 : ts = #[t] := Array.toList_inj.1 hts
      subst e1 e2
      split at h
      · rename_i ht hx
        cases h
        have hT := (ty_get ht).2.2.1
        exact qp_of (by simp) fun c w ha => by
          simp [execOp, resolve, invoke, builtin, Builtin.len_, ha.ev hx, run_underlying hT.out, goInt]
      · cases h
    · cases h
  · rename_i args ts
    split at h
    · rename_i x t hxs hts
      have e1 : args = #[x] := Array.toList_inj.1 hxs
      have e2 : ts = #[t] := Array.toList_inj.1 hts
      subst e1 e2
      split at h
      · rename_i ht hx
        cases h
        have hT := (ty_get ht).2.2.1
        exact qp_of (by simp) fun c w ha => by
          simp [execOp, resolve, invoke, builtin, Builtin.cap_, ha.ev hx, run_underlying hT.out, goInt]
      · cases h
    · cases h
  · rename_i args ts
    split at h
    · rename_i a b hx
      cases h
      exact qp_of (by simp) fun c w ha => by
        have := ha.evsA hx
        have e1 : (if b > a then b else a) = max a b := by omega
        simp [execOp, resolve, invoke, builtin, Builtin.max_, this, Builtin.max2, e1]
    · cases h
  · rename_i args ts
    split at h
    · rename_i a b hx
      cases h
      exact qp_of (by simp) fun c w ha => by
        have := ha.evsA hx
        have e1 : (if b < a then b else a) = min a b := by omega
        simp [execOp, resolve, invoke, builtin, Builtin.min_, this, Builtin.min2, e1]
    · cases h
  · cases h
end
end Go.Sl
