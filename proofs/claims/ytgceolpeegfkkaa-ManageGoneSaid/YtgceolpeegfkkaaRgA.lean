/- Plain tools: picks, checks, loops, numbers in bytes. No program in sight. -/
import Derived.Test.YtgceolpeegfkkaaRfH
namespace Go.Re
set_option linter.unusedVariables false
set_option linter.unusedSimpArgs false

theorem ix_nat {α : Type} (l : List α) (n : Nat) : ix l (n : Int) = l[n]? := by simp [ix]
theorem ix_at {α : Type} (l : List α) (n : Nat) (h : n < l.length) : ix l (n : Int) = some l[n] := by rw [ix_nat, List.getElem?_eq_getElem h]
theorem chk_true {b : Bool} (h : b = true) : chk b = some () := by rw [h]; rfl
theorem chk_dec {p : Prop} [Decidable p] (h : p) : chk (decide p) = some () := chk_true (decide_eq_true h)
theorem w64_succ (n : Nat) (h : n < 9223372036854775807) : w64 ((n : Int) + 1) = ((n + 1 : Nat) : Int) := by rw [w64_in] <;> omega
theorem jn_inl {A R : Type} (a : A) (k : A → Option R) : jn (some (.inl a)) k = k a := rfl
theorem jn_inr {A R : Type} (r : R) (k : A → Option R) : jn (some (.inr r)) k = some r := rfl
theorem inLen_ok {i : Int} {n : Nat} (h : 0 ≤ i) (h2 : i < n) : inLen i n = true := by simp [inLen, h, h2]
theorem inLen_nat {i n : Nat} (h : i < n) : inLen (i : Int) n = true := inLen_ok (by omega) (by omega)
theorem big_lt {n : Nat} (h : n < 18446744073709551616) : n < Big := h

/-! ### bytes of a number -/
/-- The value of bytes, the lowest first. -/
def nv : List (BitVec 8) → Nat
  | [] => 0
  | c :: r => c.toNat + 256 * nv r
theorem nv_lt : ∀ l : List (BitVec 8), nv l < 256 ^ l.length
  | [] => by simp [nv]
  | c :: r => by
    have := nv_lt r
    have h := c.isLt
    simp only [nv, List.length_cons, Nat.pow_succ]
    omega
theorem nv_append : ∀ a b : List (BitVec 8), nv (a ++ b) = nv a + 256 ^ a.length * nv b
  | [], b => by simp [nv]
  | c :: r, b => by
    have := nv_append r b
    simp only [List.cons_append, nv, this, List.length_cons, Nat.pow_succ, Nat.mul_add]
    rw [Nat.mul_comm (256 ^ r.length) 256, Nat.mul_assoc]; omega
theorem nv_lt64 {l : List (BitVec 8)} (h : l.length ≤ 8) : nv l < 18446744073709551616 := by
  have h1 := nv_lt l
  have h2 : 256 ^ l.length ≤ 256 ^ 8 := Nat.pow_le_pow_right (by decide) h
  have h3 : (256 : Nat) ^ 8 = 18446744073709551616 := by decide
  omega
theorem pow256 (i : Nat) : (256 : Nat) ^ i = 2 ^ (8 * i) := by
  rw [show (256 : Nat) = 2 ^ 8 from rfl, ← Nat.pow_mul]

/-- The bytes of a number, the lowest first. -/
def leN (k : Nat) (x : BitVec 64) : List (BitVec 8) := (List.range k).map fun i => (x >>> (8 * i)).setWidth 8
theorem leN_length (k : Nat) (x : BitVec 64) : (leN k x).length = k := by simp [leN]
theorem leN_succ (k : Nat) (x : BitVec 64) : leN (k + 1) x = leN k x ++ [(x >>> (8 * k)).setWidth 8] := by
  simp [leN, List.range_succ]
theorem leN_get (k : Nat) (x : BitVec 64) (i : Nat) (h : i < k) : (leN k x)[i]? = some ((x >>> (8 * i)).setWidth 8) := by
  simp [leN, h]
theorem nv_leN (x : BitVec 64) : ∀ k, nv (leN k x) = x.toNat % 256 ^ k
  | 0 => by simp [leN, nv]; omega
  | k + 1 => by
    rw [leN_succ, nv_append, nv_leN x k, leN_length]
    simp only [nv, Nat.mul_zero, Nat.add_zero, BitVec.toNat_setWidth, BitVec.toNat_ushiftRight, Nat.shiftRight_eq_div_pow, ← pow256]
    rw [show (2 : Nat) ^ 8 = 256 from rfl, Nat.pow_succ, Nat.mod_mul]

theorem shl8_or (x : BitVec 64) (c : BitVec 8) (v : Nat) (hx : x.toNat = v) (hv : v < 72057594037927936) : ((x <<< 8) ||| c.setWidth 64).toNat = c.toNat + 256 * v := by
  have hc := c.isLt
  rw [BitVec.toNat_or, BitVec.toNat_shiftLeft, BitVec.toNat_setWidth, hx, Nat.shiftLeft_eq, Nat.mod_eq_of_lt (by omega), Nat.mod_eq_of_lt (by omega),
    show v * 2 ^ 8 = 2 ^ 8 * v by omega, ← Nat.two_pow_add_eq_or_of_lt (by omega)]
  omega
theorem mul256_add (x : BitVec 64) (c : BitVec 8) (v : Nat) (hx : x.toNat = v) (hv : v < 72057594037927936) : ((x * 256#64) + c.setWidth 64).toNat = c.toNat + 256 * v := by
  have hc := c.isLt
  rw [BitVec.toNat_add, BitVec.toNat_mul, BitVec.toNat_setWidth, hx, show (256#64).toNat = 256 from rfl, Nat.mod_eq_of_lt (a := v * 256) (by omega), Nat.mod_eq_of_lt (a := c.toNat) (by omega)]
  rw [Nat.mod_eq_of_lt (by omega)]; omega
theorem or_shl (x : BitVec 64) (c : BitVec 8) (v i : Nat) (hx : x.toNat = v) (hi : i < 8) (hv : v < 256 ^ i) : (x ||| (c.setWidth 64 <<< (8 * i))).toNat = v + 256 ^ i * c.toNat := by
  have hc := c.isLt
  rw [pow256] at hv ⊢
  have h1 : c.toNat * 2 ^ (8 * i) < 2 ^ 64 := by
    have h2 : c.toNat * 2 ^ (8 * i) < 2 ^ 8 * 2 ^ (8 * i) := Nat.mul_lt_mul_of_pos_right (by omega) (Nat.two_pow_pos _)
    rw [← Nat.pow_add] at h2
    have h3 : (2 : Nat) ^ (8 + 8 * i) ≤ 2 ^ 64 := Nat.pow_le_pow_right (by decide) (by omega)
    omega
  rw [BitVec.toNat_or, BitVec.toNat_shiftLeft, BitVec.toNat_setWidth, hx, Nat.mod_eq_of_lt (a := c.toNat) (by omega), Nat.shiftLeft_eq, Nat.mod_eq_of_lt h1,
    Nat.mul_comm c.toNat, Nat.or_comm, ← Nat.two_pow_add_eq_or_of_lt hv]
  omega
theorem lt_56 {l : List (BitVec 8)} (h : l.length < 8) : nv l < 72057594037927936 := by
  have h1 := nv_lt l
  have h2 : 256 ^ l.length ≤ 256 ^ 7 := Nat.pow_le_pow_right (by decide) (by omega)
  have h3 : (256 : Nat) ^ 7 = 72057594037927936 := by decide
  omega
theorem eq_ofNat {x : BitVec 64} {v : Nat} (h : x.toNat = v) : x = BitVec.ofNat 64 v := by
  rw [← h]; simp

theorem nv_take_rev (p : List (BitVec 8)) (i : Nat) (h : i < p.length) : nv (p.take (i + 1)).reverse = p[i].toNat + 256 * nv (p.take i).reverse := by
  rw [List.take_add_one, List.getElem?_eq_getElem h, List.reverse_append]; rfl
theorem lim_int : ((lim : Nat) : Int) = 2147483648 := rfl
theorem le_lim {n : Nat} (h : n ≤ 2147483648) : n ≤ lim := h

/-- Over zeros. -/
theorem set_at {α : Type} (a b : List α) (y z : α) : (a ++ z :: b).set a.length y = a ++ y :: b := by
  rw [List.set_append_right _ _ (Nat.le_refl _)]; simp
end Go.Re
