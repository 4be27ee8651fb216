/- Reflection, part F: arithmetic. -/
import Derived.Test.YtgceolpeegfkkaaReE
namespace Go.Re
set_option linter.unusedVariables false
set_option linter.unusedSimpArgs false
open Go.RowKit (Below)

theorem wrap_u8 (n : Int) : IntKind.u8.wrap n = n % 256 := by simp [IntKind.wrap, IntKind.bits, IntKind.signed]
theorem wrap_u16 (n : Int) : IntKind.u16.wrap n = n % 65536 := by simp [IntKind.wrap, IntKind.bits, IntKind.signed]
theorem wrap_u32 (n : Int) : IntKind.u32.wrap n = n % 4294967296 := by simp [IntKind.wrap, IntKind.bits, IntKind.signed]
theorem wrap_u64 (n : Int) : IntKind.u64.wrap n = n % 18446744073709551616 := by simp [IntKind.wrap, IntKind.bits, IntKind.signed]
theorem w64_eq (n : Int) : w64 n = if n % 18446744073709551616 ≥ 9223372036854775808 then n % 18446744073709551616 - 18446744073709551616 else n % 18446744073709551616 := by
  unfold w64 IntKind.wrap; simp [IntKind.bits, IntKind.signed]
theorem w64_ok (n : Int) : -9223372036854775808 ≤ w64 n ∧ w64 n < 9223372036854775808 := by rw [w64_eq]; split <;> omega
theorem w64_in {n : Int} (h : -9223372036854775808 ≤ n) (h' : n < 9223372036854775808) : w64 n = n := by rw [w64_eq]; split <;> omega

theorem w32_eq (n : Int) : w32 n = if n % 4294967296 ≥ 2147483648 then n % 4294967296 - 4294967296 else n % 4294967296 := by
  unfold w32 IntKind.wrap; simp [IntKind.bits, IntKind.signed]
theorem w32_ok (n : Int) : -2147483648 ≤ w32 n ∧ w32 n < 2147483648 := by rw [w32_eq]; split <;> omega
theorem w32_in {n : Int} (h : -2147483648 ≤ n) (h' : n < 2147483648) : w32 n = n := by rw [w32_eq]; split <;> omega

theorem ofInt_toNat {n : Nat} (x : BitVec n) : BitVec.ofInt n (x.toNat : Int) = x := by
  apply BitVec.eq_of_toNat_eq; simp

section
variable {P : Program} {w : World}

theorem toI_range {k : IntKind} {x : IntT k} (h : okI k x) : k.wrap (toI k x) = toI k x := by
  cases k with
  | u8 => have := BitVec.isLt (show BitVec 8 from x); rw [wrap_u8]; simp only [toI]; omega
  | u16 => have := BitVec.isLt (show BitVec 16 from x); rw [wrap_u16]; simp only [toI]; omega
  | u32 => have := BitVec.isLt (show BitVec 32 from x); rw [wrap_u32]; simp only [toI]; omega
  | u64 => have := BitVec.isLt (show BitVec 64 from x); rw [wrap_u64]; simp only [toI]; omega
  | i64 => exact w64_in h.1 h.2
  | i32 => exact w32_in h.1 h.2
  | _ => exact h.elim

theorem tdiv_nat (x y : Nat) : (x : Int).tdiv (y : Int) = ((x / y : Nat) : Int) := by simp
theorem tmod_nat (x y : Nat) : (x : Int).tmod (y : Int) = ((x % y : Nat) : Int) := by rw [Int.tmod_eq_emod_of_nonneg (by omega)]; simp

/-- An unsigned kind's operations are the bit vectors'. -/
theorem arith_un {n : Nat} {k : IntKind} (hk : ∀ m : Int, k.wrap m = m % ((2 ^ n : Nat) : Int)) (hb : k.bits = n) {op : BinOp} {x y z : BitVec n} (h : arith.un n op x y = some z) (t : TypeId) :
    (binOp op t (.int k (x.toNat : Int)) (.int k (y.toNat : Int))).run P w = .ok (.int k (z.toNat : Int)) w := by
  have hx := x.isLt
  have hy := y.isLt
  subst hb
  cases op <;> simp only [arith.un, Option.some.injEq, reduceCtorEq] at h
  case add => subst h; simp only [binOp_add, Op.intArith, Sem.run_pure, hk]; congr 2
  case sub =>
    subst h; simp only [binOp_sub, Op.intArith, Sem.run_pure, hk]; congr 2; rw [BitVec.toNat_sub]
    have e : ((2 ^ k.bits - y.toNat + x.toNat : Nat) : Int) = ((x.toNat : Int) - (y.toNat : Int)) + ((2 ^ k.bits : Nat) : Int) := by
      have := Nat.le_of_lt hy
      omega
    rw [Int.natCast_emod, e]
    exact (Int.add_emod_right _ _).symm
  case mul => subst h; simp only [binOp_mul, Op.intArith, Sem.run_pure, hk]; congr 2
  case quo =>
    by_cases h0 : y = 0
    · subst h0; simp at h
    · have : (y == 0) = false := beq_eq_false_iff_ne.2 h0
      rw [this] at h; simp at h; subst h
      have hy0 : (y.toNat : Int) ≠ 0 := by
        intro e; apply h0; apply BitVec.eq_of_toNat_eq; simp; omega
      simp only [binOp_quo, Op.intDiv, if_neg hy0, Sem.run_pure, hk]
      congr 2
      rw [tdiv_nat, BitVec.toNat_udiv, ← Int.natCast_emod]
      congr 1
      exact Nat.mod_eq_of_lt (Nat.lt_of_le_of_lt (Nat.div_le_self _ _) hx)
  case rem =>
    by_cases h0 : y = 0
    · subst h0; simp at h
    · have : (y == 0) = false := beq_eq_false_iff_ne.2 h0
      rw [this] at h; simp at h; subst h
      have hy0 : (y.toNat : Int) ≠ 0 := by
        intro e; apply h0; apply BitVec.eq_of_toNat_eq; simp; omega
      simp only [binOp_rem, Op.intDiv, if_neg hy0, Sem.run_pure]
      rw [tmod_nat, BitVec.toNat_umod]
  all_goals
    subst h
    simp only [binOp_and, binOp_or, binOp_xor, binOp_andNot, Op.intBits, Sem.run_pure, hk, ofInt_toNat]
    congr 2
    rw [← Int.natCast_emod]
    congr 1
    exact Nat.mod_eq_of_lt (BitVec.isLt _)

theorem wrap_i64_toNat (r : BitVec 64) : IntKind.i64.wrap (r.toNat : Int) = r.toInt := by
  have := r.isLt
  show w64 _ = _
  rw [w64_eq, BitVec.toInt_eq_toNat_cond]
  split <;> split <;> omega

theorem toInt_range (r : BitVec 64) : -9223372036854775808 ≤ r.toInt ∧ r.toInt < 9223372036854775808 := by
  have h1 := BitVec.le_toInt r
  have h2 := BitVec.toInt_lt (x := r)
  omega

theorem tmod_range {x y : Int} (h1 : -9223372036854775808 ≤ x) (h2 : x < 9223372036854775808) : -9223372036854775808 ≤ x.tmod y ∧ x.tmod y < 9223372036854775808 := by
  have h3 : (x.tmod y).natAbs ≤ x.natAbs := by
    rw [Int.natAbs_tmod]; exact Nat.mod_le _ _
  by_cases h4 : 0 ≤ x
  · have := Int.tmod_nonneg y h4; omega
  · have h5 := Int.tmod_nonneg (a := -x) y (by omega)
    rw [Int.neg_tmod] at h5
    omega

theorem arith_ok {op : BinOp} {k : IntKind} {x y z : IntT k} (hx : okI k x) (hy : okI k y) (h : arith op k x y = some z) (t : TypeId) :
    (binOp op t (.int k (toI k x)) (.int k (toI k y))).run P w = .ok (.int k (toI k z)) w ∧ okI k z := by
  cases k with
  | u8 => exact ⟨arith_un (n := 8) (k := .u8) (fun m => wrap_u8 m) rfl h t, trivial⟩
  | u16 => exact ⟨arith_un (n := 16) (k := .u16) (fun m => wrap_u16 m) rfl h t, trivial⟩
  | u32 => exact ⟨arith_un (n := 32) (k := .u32) (fun m => wrap_u32 m) rfl h t, trivial⟩
  | u64 => exact ⟨arith_un (n := 64) (k := .u64) (fun m => wrap_u64 m) rfl h t, trivial⟩
  | i64 =>
    have hx : (-9223372036854775808 : Int) ≤ x ∧ x < 9223372036854775808 := hx
    have hy : (-9223372036854775808 : Int) ≤ y ∧ y < 9223372036854775808 := hy
    cases op <;> simp only [arith, Option.some.injEq, reduceCtorEq] at h
    case add => subst h; exact ⟨by simp only [binOp_add, Op.intArith, toI]; rfl, w64_ok _⟩
    case sub => subst h; exact ⟨by simp only [binOp_sub, Op.intArith, toI]; rfl, w64_ok _⟩
    case mul => subst h; exact ⟨by simp only [binOp_mul, Op.intArith, toI]; rfl, w64_ok _⟩
    case quo =>
      by_cases h0 : y = (0 : Int)
      · subst h0; simp at h
      · have : (y == (0 : Int)) = false := beq_eq_false_iff_ne.2 h0
        rw [this] at h; simp at h; subst h
        exact ⟨by simp only [binOp_quo, Op.intDiv, toI]; rw [if_neg h0]; rfl, w64_ok _⟩
    case rem =>
      by_cases h0 : y = (0 : Int)
      · subst h0; simp at h
      · have : (y == (0 : Int)) = false := beq_eq_false_iff_ne.2 h0
        rw [this] at h; simp at h; subst h
        refine ⟨by simp only [binOp_rem, Op.intDiv, toI]; rw [if_neg h0]; rfl, ?_⟩
        show (-9223372036854775808 : Int) ≤ Int.tmod x y ∧ Int.tmod x y < 9223372036854775808
        exact tmod_range hx.1 hx.2
    all_goals
      subst h
      refine ⟨?_, ?_⟩
      · simp only [binOp_and, binOp_or, binOp_xor, binOp_andNot, Op.intBits, toI, Sem.run_pure]
        congr 2
        exact wrap_i64_toNat _
      · exact toInt_range _
  | i8 => exact hx.elim
  | i16 => exact hx.elim
  | i32 => first | cases h | exact hx.elim

theorem cmp_un {n : Nat} {k : IntKind} {op : BinOp} {x y : BitVec n} {z : Bool} (h : cmp.un n op x y = some z) (t : TypeId) :
    (binOp op t (.int k (x.toNat : Int)) (.int k (y.toNat : Int))).run P w = .ok (.bool z) w := by
  have he : ((x.toNat : Int) = (y.toNat : Int)) ↔ x = y := ⟨fun e => BitVec.eq_of_toNat_eq (by omega), fun e => by rw [e]⟩
  have hl : ((x.toNat : Int) < (y.toNat : Int)) ↔ x < y := by rw [BitVec.lt_def]; omega
  have hl' : ((y.toNat : Int) < (x.toNat : Int)) ↔ y < x := by rw [BitVec.lt_def]; omega
  have hle : ((x.toNat : Int) ≤ (y.toNat : Int)) ↔ x ≤ y := by rw [BitVec.le_def]; omega
  have hle' : ((y.toNat : Int) ≤ (x.toNat : Int)) ↔ y ≤ x := by rw [BitVec.le_def]; omega
  cases op <;> simp only [cmp.un, Option.some.injEq, reduceCtorEq] at h <;> subst h
  case eql => simp only [binOp_eql, Sem.run_pure]; congr 2; rw [Bool.eq_iff_iff]; simp only [beq_iff_eq, decide_eq_true_eq]; exact he
  case neq => simp only [binOp_neq, Sem.run_pure]; congr 2; rw [Bool.eq_iff_iff]; simp only [bne_iff_ne, ne_eq, Bool.not_eq_true', decide_eq_false_iff_not]; exact not_congr he
  case lss => simp only [binOp_lss, Sem.run_pure]; congr 2; rw [Bool.eq_iff_iff]; simp only [decide_eq_true_eq]; exact hl
  case leq => simp only [binOp_leq, Sem.run_pure]; congr 2; rw [Bool.eq_iff_iff]; simp only [decide_eq_true_eq]; exact hle
  case gtr => simp only [binOp_gtr, Sem.run_pure]; congr 2; rw [Bool.eq_iff_iff]; simp only [decide_eq_true_eq]; exact hl'
  case geq => simp only [binOp_geq, Sem.run_pure]; congr 2; rw [Bool.eq_iff_iff]; simp only [decide_eq_true_eq]; exact hle'

theorem cmp_ok {op : BinOp} {k : IntKind} {x y : IntT k} {z : Bool} (h : cmp op k x y = some z) (t : TypeId) :
    (binOp op t (.int k (toI k x)) (.int k (toI k y))).run P w = .ok (.bool z) w := by
  cases k with
  | u8 => exact cmp_un (n := 8) h t
  | u16 => exact cmp_un (n := 16) h t
  | u32 => exact cmp_un (n := 32) h t
  | u64 => exact cmp_un (n := 64) h t
  | i64 =>
    have key : ∀ (x y : Int), cmp.si op x y = some z → (binOp op t (.int .i64 x) (.int .i64 y)).run P w = .ok (.bool z) w := by
      intro x y h'
      cases op <;> simp only [cmp.si, Option.some.injEq, reduceCtorEq] at h' <;> subst h'
      case eql => simp only [binOp_eql, Sem.run_pure]; congr 2
      case neq => simp only [binOp_neq, Sem.run_pure]; congr 2
      case lss => simp only [binOp_lss, Sem.run_pure]
      case leq => simp only [binOp_leq, Sem.run_pure]
      case gtr => simp only [binOp_gtr, Sem.run_pure, gt_iff_lt]
      case geq => simp only [binOp_geq, Sem.run_pure, ge_iff_le]
    exact key x y h
  | i8 => cases h
  | i16 => cases h
  | i32 => cases h

theorem pow_min (x n w : Nat) (hw : x < 2 ^ w) : x * 2 ^ (min n w) % 2 ^ w = x * 2 ^ n % 2 ^ w := by
  rcases Nat.le_total n w with h | h
  · rw [Nat.min_eq_left h]
  · rw [Nat.min_eq_right h]
    have : 2 ^ n = 2 ^ w * 2 ^ (n - w) := by rw [← Nat.pow_add]; congr 1; omega
    rw [this, ← Nat.mul_assoc, Nat.mul_comm x (2 ^ w), Nat.mul_assoc, Nat.mul_mod_right, Nat.mul_mod_right]

theorem div_min (x n w : Nat) (hw : x < 2 ^ w) : x / 2 ^ (min n w) = x / 2 ^ n := by
  rcases Nat.le_total n w with h | h
  · rw [Nat.min_eq_left h]
  · rw [Nat.min_eq_right h, Nat.div_eq_of_lt hw, Nat.div_eq_of_lt (Nat.lt_of_lt_of_le hw (Nat.pow_le_pow_right (by omega) h))]

theorem shift_un {n : Nat} {k : IntKind} (hk : ∀ m : Int, k.wrap m = m % ((2 ^ n : Nat) : Int)) (hb : k.bits = n) {op : BinOp} {x z : BitVec n} {y : Int} (h : shift.un n op x y = some z) (t : TypeId) (k' : IntKind) :
    (binOp op t (.int k (x.toNat : Int)) (.int k' y)).run P w = .ok (.int k (z.toNat : Int)) w := by
  have hx := x.isLt
  subst hb
  cases op <;> simp only [shift.un, reduceCtorEq] at h
  case shl =>
    by_cases h0 : 0 ≤ y
    · simp only [h0, decide_true, cond_true, Option.some.injEq] at h; subst h
      simp only [binOp_shl, Op.shift, if_neg (Int.not_lt.2 h0), Sem.run_pure, hk]
      congr 2
      rw [BitVec.toNat_shiftLeft, Nat.shiftLeft_eq, Int.natCast_emod, ← Int.natCast_emod, ← pow_min _ _ _ hx]
      push_cast
      rfl
    · simp [h0] at h
  case shr =>
    by_cases h0 : 0 ≤ y
    · simp only [h0, decide_true, cond_true, Option.some.injEq] at h; subst h
      simp only [binOp_shr, Op.shift, if_neg (Int.not_lt.2 h0), Sem.run_pure]
      congr 2
      rw [BitVec.toNat_ushiftRight, Nat.shiftRight_eq_div_pow, ← div_min _ _ _ hx]
      rw [show (2 : Int) ^ (min y.toNat k.bits) = ((2 ^ (min y.toNat k.bits) : Nat) : Int) by push_cast; rfl]
      rw [Int.fdiv_eq_ediv_of_nonneg _ (Int.natCast_nonneg _)]; rfl
    · simp [h0] at h

theorem fdiv_range {x : Int} {m : Nat} (hm : 0 < m) (h1 : -9223372036854775808 ≤ x) (h2 : x < 9223372036854775808) : -9223372036854775808 ≤ x.fdiv (m : Int) ∧ x.fdiv (m : Int) < 9223372036854775808 := by
  rw [Int.fdiv_eq_ediv_of_nonneg _ (by omega)]
  have hm' : (0 : Int) < m := by omega
  constructor
  · rw [Int.le_ediv_iff_mul_le hm']
    have : (-9223372036854775808 : Int) * m ≤ -9223372036854775808 * 1 := by
      apply Int.mul_le_mul_of_nonpos_left <;> omega
    omega
  · apply Int.ediv_lt_of_lt_mul hm'
    have : (9223372036854775808 : Int) * 1 ≤ 9223372036854775808 * m := by
      apply Int.mul_le_mul_of_nonneg_left <;> omega
    omega

theorem shift_ok {op : BinOp} {k k' : IntKind} {x z : IntT k} {y : IntT k'} (hx : okI k x) (h : shift op k x (toI k' y) = some z) (t : TypeId) :
    (binOp op t (.int k (toI k x)) (.int k' (toI k' y))).run P w = .ok (.int k (toI k z)) w ∧ okI k z := by
  cases k with
  | u8 => exact ⟨shift_un (n := 8) (k := .u8) (fun m => wrap_u8 m) rfl h t k', trivial⟩
  | u16 => exact ⟨shift_un (n := 16) (k := .u16) (fun m => wrap_u16 m) rfl h t k', trivial⟩
  | u32 => exact ⟨shift_un (n := 32) (k := .u32) (fun m => wrap_u32 m) rfl h t k', trivial⟩
  | u64 => exact ⟨shift_un (n := 64) (k := .u64) (fun m => wrap_u64 m) rfl h t k', trivial⟩
  | i64 =>
    generalize toI k' y = y at *
    have hx : (-9223372036854775808 : Int) ≤ x ∧ x < 9223372036854775808 := hx
    cases op <;> simp only [shift, reduceCtorEq] at h
    case shl =>
      by_cases h0 : 0 ≤ y
      · simp only [h0, decide_true, cond_true, Option.some.injEq] at h; subst h
        refine ⟨?_, w64_ok _⟩
        simp only [binOp_shl, Op.shift, if_neg (Int.not_lt.2 h0), Sem.run_pure, toI]
        rfl
      · simp [h0] at h
    case shr =>
      by_cases h0 : 0 ≤ y
      · simp only [h0, decide_true, cond_true, Option.some.injEq] at h; subst h
        refine ⟨?_, ?_⟩
        · simp only [binOp_shr, Op.shift, if_neg (Int.not_lt.2 h0), Sem.run_pure, toI]
          rfl
        · have := fdiv_range (x := x) (m := 2 ^ min y.toNat 64) (Nat.two_pow_pos _) hx.1 hx.2
          push_cast at this
          exact this
      · simp [h0] at h
  | i8 => exact hx.elim
  | i16 => exact hx.elim
  | i32 => first | cases h | exact hx.elim

theorem ofInt8 (x : Int) : ((BitVec.ofInt 8 x).toNat : Int) = x % 256 := by rw [BitVec.toNat_ofInt]; omega
theorem ofInt16 (x : Int) : ((BitVec.ofInt 16 x).toNat : Int) = x % 65536 := by rw [BitVec.toNat_ofInt]; omega
theorem ofInt32 (x : Int) : ((BitVec.ofInt 32 x).toNat : Int) = x % 4294967296 := by rw [BitVec.toNat_ofInt]; omega
theorem ofInt64 (x : Int) : ((BitVec.ofInt 64 x).toNat : Int) = x % 18446744073709551616 := by rw [BitVec.toNat_ofInt]; omega

theorem nat_in8 (x : BitVec 8) : (-9223372036854775808 : Int) ≤ (x.toNat : Int) ∧ (x.toNat : Int) < 9223372036854775808 := by have := x.isLt; omega
theorem nat_in16 (x : BitVec 16) : (-9223372036854775808 : Int) ≤ (x.toNat : Int) ∧ (x.toNat : Int) < 9223372036854775808 := by have := x.isLt; omega
theorem nat_in32 (x : BitVec 32) : (-9223372036854775808 : Int) ≤ (x.toNat : Int) ∧ (x.toNat : Int) < 9223372036854775808 := by have := x.isLt; omega

theorem convI_ok {k k' : IntKind} {x : IntT k} {z : IntT k'} (hx : okI k x) (h : convI k k' x = some z) : k'.wrap (toI k x) = toI k' z ∧ okI k' z := by
  cases k <;> cases k' <;> simp only [convI, Option.some.injEq, reduceCtorEq] at h <;> subst h
  case i64.i64 => exact ⟨toI_range hx, hx⟩
  case u8.i64 => exact ⟨w64_in (nat_in8 x).1 (nat_in8 x).2, nat_in8 x⟩
  case u16.i64 => exact ⟨w64_in (nat_in16 x).1 (nat_in16 x).2, nat_in16 x⟩
  case u32.i64 => exact ⟨w64_in (nat_in32 x).1 (nat_in32 x).2, nat_in32 x⟩
  case u64.i64 => exact ⟨rfl, w64_ok _⟩
  case u64.i32 => exact ⟨rfl, w32_ok _⟩
  case i64.i32 => exact ⟨rfl, w32_ok _⟩
  case i64.u8 => refine ⟨?_, trivial⟩; rw [wrap_u8]; exact (ofInt8 _).symm
  case i64.u16 => refine ⟨?_, trivial⟩; rw [wrap_u16]; exact (ofInt16 _).symm
  case i64.u32 => refine ⟨?_, trivial⟩; rw [wrap_u32]; exact (ofInt32 _).symm
  case i64.u64 => refine ⟨?_, trivial⟩; rw [wrap_u64]; exact (ofInt64 _).symm
  all_goals
    refine ⟨?_, trivial⟩
    simp only [wrap_u8, wrap_u16, wrap_u32, wrap_u64, toI, BitVec.toNat_setWidth]
    first
      | (have := BitVec.isLt (show BitVec 8 from x); omega)
      | (have := BitVec.isLt (show BitVec 16 from x); omega)
      | (have := BitVec.isLt (show BitVec 32 from x); omega)
      | (have := BitVec.isLt (show BitVec 64 from x); omega)

theorem mask_ofInt (n : Nat) : BitVec.ofInt n ((2 : Int) ^ n - 1) = BitVec.allOnes n := by
  apply BitVec.eq_of_toNat_eq
  rw [BitVec.toNat_ofInt, BitVec.toNat_allOnes]
  have := Nat.two_pow_pos n
  have e : ((2 : Int) ^ n - 1) = ((2 ^ n - 1 : Nat) : Int) := by
    rw [Int.natCast_sub (by omega)]; push_cast; rfl
  rw [e, ← Int.natCast_emod, Int.toNat_natCast]
  exact Nat.mod_eq_of_lt (by omega)

theorem unI_un {n : Nat} {k : IntKind} (hk : ∀ m : Int, k.wrap m = m % ((2 ^ n : Nat) : Int)) (hb : k.bits = n) (hs : k.signed = false) {op : UnOp} {x z : BitVec n} (h : unI.un n op x = some z) :
    (Op.unary op (.int k (x.toNat : Int))).run P w = .ok (.int k (z.toNat : Int)) w := by
  have hx := x.isLt
  subst hb
  cases op <;> simp only [unI.un, Option.some.injEq, reduceCtorEq] at h <;> subst h
  case neg =>
    simp only [Op.unary, Op.intArith, Sem.run_pure, hk]; congr 2
    rw [BitVec.toNat_sub]
    have e : ((2 ^ k.bits - x.toNat + (0 : BitVec k.bits).toNat : Nat) : Int) = (0 - (x.toNat : Int)) + ((2 ^ k.bits : Nat) : Int) := by
      have := Nat.le_of_lt hx
      have e0 : (0 : BitVec k.bits).toNat = 0 := by simp
      omega
    rw [Int.natCast_emod, e]
    exact (Int.add_emod_right _ _).symm
  case xor =>
    simp only [Op.unary, hs, IntKind.max, Bool.false_eq_true, if_false, Op.intBits, Sem.run_pure, hk, ofInt_toNat, mask_ofInt]
    congr 2
    rw [← Int.natCast_emod]
    congr 1
    rw [Nat.mod_eq_of_lt (BitVec.isLt _), BitVec.allOnes_xor]

theorem unI_ok {op : UnOp} {k : IntKind} {x z : IntT k} (hx : okI k x) (h : unI op k x = some z) :
    (Op.unary op (.int k (toI k x))).run P w = .ok (.int k (toI k z)) w ∧ okI k z := by
  cases k with
  | u8 => exact ⟨unI_un (n := 8) (k := .u8) (fun m => wrap_u8 m) rfl rfl h, trivial⟩
  | u16 => exact ⟨unI_un (n := 16) (k := .u16) (fun m => wrap_u16 m) rfl rfl h, trivial⟩
  | u32 => exact ⟨unI_un (n := 32) (k := .u32) (fun m => wrap_u32 m) rfl rfl h, trivial⟩
  | u64 => exact ⟨unI_un (n := 64) (k := .u64) (fun m => wrap_u64 m) rfl rfl h, trivial⟩
  | i64 =>
    cases op <;> simp only [unI, Option.some.injEq, reduceCtorEq] at h <;> subst h
    exact ⟨rfl, w64_ok _⟩
  | i8 => exact hx.elim
  | i16 => exact hx.elim
  | i32 => first | cases h | exact hx.elim

end
end Go.Re
