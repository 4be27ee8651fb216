/- Plain laws of chapter 1: bits of numbers, as the reference tells them. -/
import Derived.Test.YtjaaojlggjlgeaaNumM
namespace Go.Proofs.Ytjaaojlggjlgeaa
open Go Go.Re
set_option linter.unusedVariables false
set_option linter.unusedSimpArgs false
theorem ref_right (f n : Int) : reticuleref01_Right (f, n) = some (decide (bitsIn f n)) := by
  simp only [reticuleref01_Right]
  by_cases h1 : 0 ≤ f
  · by_cases h2 : 1 ≤ n
    · by_cases h3 : n ≤ 64
      · have e : w64 (64 - n) = 64 - n := w64_in (by omega) (by omega)
        by_cases h4 : f ≤ 64 - n
        · rw [decide_eq_true (show bitsIn f n from ⟨h1, h2, h3, h4⟩)]; simp [h1, h2, h3, h4, e]
        · rw [decide_eq_false (fun h : bitsIn f n => h4 h.2.2.2)]; simp [h1, h2, h3, h4, e]
      · rw [decide_eq_false (fun h : bitsIn f n => h3 h.2.2.1)]; simp [h1, h2, h3]
    · rw [decide_eq_false (fun h : bitsIn f n => h2 h.2.1)]; simp [h1, h2]
  · rw [decide_eq_false (fun h : bitsIn f n => h1 h.1)]; simp [h1]
theorem div2 (x : BitVec 64) (i : Nat) : (x >>> i) / 2#64 = x >>> (i + 1) := by
  apply BitVec.eq_of_toNat_eq
  rw [BitVec.toNat_udiv, BitVec.toNat_ushiftRight, BitVec.toNat_ushiftRight, Nat.shiftRight_eq_div_pow, Nat.shiftRight_eq_div_pow, Nat.pow_succ, ← Nat.div_div_eq_div_mul]; rfl
theorem ref_bits_loop0 (x : BitVec 64) (f : Nat) (m : Int) (hf : f ≤ 64) : ∀ k i n, i + k = f → k < n → reticuleref01_Bits_L0 n (x >>> i, (f : Int), m, (i : Int)) = some (Sum.inl (x >>> f, m)) := by
  intro k
  induction k with
  | zero =>
    intro i n hi hn
    obtain ⟨n, rfl⟩ := Nat.exists_eq_succ_of_ne_zero (show n ≠ 0 by omega)
    have h : ¬ ((i : Int) < (f : Int)) := by omega
    simp only [reticuleref01_Bits_L0, decide_eq_false h, cond_false]
    rw [show i = f by omega]
  | succ k ih =>
    intro i n hi hn
    obtain ⟨n, rfl⟩ := Nat.exists_eq_succ_of_ne_zero (show n ≠ 0 by omega)
    have h : ((i : Int) < (f : Int)) := by omega
    rw [← ih (i + 1) n (by omega) (by omega), ← w64_succ i (by omega)]
    simp only [reticuleref01_Bits_L0, decide_eq_true h, cond_true, div2]
/-- one bit more -/
theorem add_bit (z b p : BitVec 64) (i c : Nat) (hi : i < 64) (hz : z.toNat < 2 ^ i) (hb : b.toNat = c) (hc : c < 2) (hp : p.toNat = 2 ^ i) : (z + b * p).toNat = z.toNat + 2 ^ i * c := by
  have h1 : 2 ^ i * c ≤ 2 ^ i := by
    have := Nat.mul_le_mul_left (2 ^ i) (show c ≤ 1 by omega); omega
  have h2 : (2 : Nat) ^ (i + 1) ≤ 2 ^ 64 := Nat.pow_le_pow_right (by decide) (by omega)
  rw [Nat.pow_succ] at h2
  have h3 : (2 : Nat) ^ i < 2 ^ 64 := Nat.pow_lt_pow_right (by decide) hi
  rw [BitVec.toNat_add, BitVec.toNat_mul, hb, hp, Nat.mul_comm c, Nat.mod_eq_of_lt (a := 2 ^ i * c) (by omega), Nat.mod_eq_of_lt (by omega)]
theorem mod2 (x : BitVec 64) (i : Nat) : ((x >>> i) % 2#64).toNat = x.toNat / 2 ^ i % 2 := by
  rw [BitVec.toNat_umod, BitVec.toNat_ushiftRight, Nat.shiftRight_eq_div_pow]; rfl
theorem twice (p : BitVec 64) (i : Nat) (h : p.toNat = 2 ^ i % 18446744073709551616) : (p * 2#64).toNat = 2 ^ (i + 1) % 18446744073709551616 := by
  rw [BitVec.toNat_mul, h, show (2#64).toNat = 2 from rfl, Nat.pow_succ]
  show (2 ^ i % 18446744073709551616 * 2) % 18446744073709551616 = _
  omega
theorem ref_bits_loop1 (x : BitVec 64) (m : Nat) (hm : m ≤ 64) : ∀ k i n z p, i + k = m → k < n → z.toNat = x.toNat % 2 ^ i → p.toNat = 2 ^ i % 18446744073709551616 →
    reticuleref01_Bits_L1 n (x >>> i, (m : Int), z, p, (i : Int)) = some (Sum.inl (BitVec.ofNat 64 (x.toNat % 2 ^ m))) := by
  intro k
  induction k with
  | zero =>
    intro i n z p hi hn hz hp
    obtain ⟨n, rfl⟩ := Nat.exists_eq_succ_of_ne_zero (show n ≠ 0 by omega)
    have h : ¬ ((i : Int) < (m : Int)) := by omega
    simp only [reticuleref01_Bits_L1, decide_eq_false h, cond_false]
    rw [show m = i by omega, ← hz]; simp
  | succ k ih =>
    intro i n z p hi hn hz hp
    obtain ⟨n, rfl⟩ := Nat.exists_eq_succ_of_ne_zero (show n ≠ 0 by omega)
    have h : ((i : Int) < (m : Int)) := by omega
    have hi' : i < 64 := by omega
    have hp' : p.toNat = 2 ^ i := by
      rw [hp]; exact Nat.mod_eq_of_lt (show 2 ^ i < 2 ^ 64 from Nat.pow_lt_pow_right (by decide) hi')
    have hz' : (z + ((x >>> i) % 2#64) * p).toNat = x.toNat % 2 ^ (i + 1) := by
      rw [add_bit z _ p i _ hi' (by rw [hz]; exact Nat.mod_lt _ (Nat.two_pow_pos _)) (mod2 x i) (Nat.mod_lt _ (by decide)) hp', hz, Nat.pow_succ, Nat.mod_mul]
    rw [← ih (i + 1) n _ _ (by omega) (by omega) hz' (twice p i hp), ← w64_succ i (by omega)]
    simp only [reticuleref01_Bits_L1, decide_eq_true h, cond_true, div2]
theorem ref_bits (x : BitVec 64) (f n : Int) : reticuleref01_Bits (x, f, n) = some (if bitsIn f n then (x &&& maskBV f.toNat n.toNat) >>> f.toNat else 0#64) := by
  simp only [reticuleref01_Bits, ref_right, Option.bind_some]
  by_cases h : bitsIn f n
  · obtain ⟨h1, h2, h3, h4⟩ := h
    have e1 := ref_bits_loop0 x f.toNat n (by omega) f.toNat 0 Big (by omega) (big_lt (by omega))
    have e2 := ref_bits_loop1 (x >>> f.toNat) n.toNat (by omega) n.toNat 0 Big 0#64 1#64 (by omega) (big_lt (by omega)) (by simp; omega) rfl
    rw [show ((f.toNat : Nat) : Int) = f by omega, show x >>> 0 = x by simp, Int.natCast_zero] at e1
    rw [show ((n.toNat : Nat) : Int) = n by omega, show x >>> f.toNat >>> 0 = x >>> f.toNat by simp, Int.natCast_zero] at e2
    simp only [decide_eq_true (show bitsIn f n from ⟨h1, h2, h3, h4⟩), Bool.not_true, cond_false, e1, e2, jn_inl, if_pos (show bitsIn f n from ⟨h1, h2, h3, h4⟩)]
    congr 1
    apply BitVec.eq_of_getLsbD_eq
    intro k hk
    rw [bits_bit x f.toNat n.toNat k (by omega) (by omega), BitVec.getLsbD_ofNat, Nat.testBit_mod_two_pow]
    simp [hk, BitVec.getLsbD]
  · simp [h]
end Go.Proofs.Ytjaaojlggjlgeaa
