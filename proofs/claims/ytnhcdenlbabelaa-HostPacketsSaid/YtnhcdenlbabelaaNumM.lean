/- Plain laws of chapter 1: bits of numbers, as the program tells them. -/
import Derived.Test.YtnhcdenlbabelaaRgA
import Derived.Test.YtnhcdenlbabelaaXF
namespace Go.Proofs.Ytnhcdenlbabelaa
open Go Go.Re
set_option linter.unusedVariables false
set_option linter.unusedSimpArgs false
/-- bits that there are -/
def bitsIn (f n : Int) : Prop := 0 ≤ f ∧ 1 ≤ n ∧ n ≤ 64 ∧ f ≤ 64 - n
instance (f n : Int) : Decidable (bitsIn f n) := inferInstanceAs (Decidable (_ ∧ _))
/-- n bits from f on -/
def maskBV (f n : Nat) : BitVec 64 := (18446744073709551615#64 >>> (64 - n)) <<< f
theorem mask_bit (f n k : Nat) (hf : f + n ≤ 64) (hn : 1 ≤ n) : (maskBV f n).getLsbD k = (decide (f ≤ k) && decide (k < f + n)) := by
  unfold maskBV
  rw [show 18446744073709551615#64 = BitVec.allOnes 64 from rfl, BitVec.getLsbD_shiftLeft, BitVec.getLsbD_ushiftRight, BitVec.getLsbD_allOnes]
  by_cases h1 : f ≤ k <;> by_cases h2 : k < f + n <;> by_cases h3 : k < 64 <;> simp [h1, h2, h3] <;> omega
theorem num_mask (f n : Int) : number_mask (f, n) = some (if bitsIn f n then maskBV f.toNat n.toNat else 0#64) := by
  simp only [number_mask]
  by_cases h1 : f < 0
  · rw [if_neg (by unfold bitsIn; omega)]; simp [h1]
  by_cases h2 : n < 1
  · rw [if_neg (by unfold bitsIn; omega)]; simp [h1, h2]
  by_cases h3 : 64 < n
  · rw [if_neg (by unfold bitsIn; omega)]; simp [h1, h2, h3]
  have e : w64 (64 - n) = 64 - n := w64_in (by omega) (by omega)
  by_cases h4 : 64 - n < f
  · rw [if_neg (by unfold bitsIn; omega)]; simp [h1, h2, h3, e, h4]
  rw [if_pos (by unfold bitsIn; omega)]
  have e1 : (0 : Int) ≤ 64 - n := by omega
  have e2 : (0 : Int) ≤ f := by omega
  simp only [h1, h2, h3, e, h4, decide_false, cond_false, Option.bind_some, decide_eq_true e1, decide_eq_true e2, cond_true, maskBV]
  rw [show (64 - n).toNat = 64 - n.toNat by omega]
theorem num_bits (x : BitVec 64) (f n : Int) : number_Bits (x, f, n) = some (if bitsIn f n then (x &&& maskBV f.toNat n.toNat) >>> f.toNat else 0#64) := by
  simp only [number_Bits, num_mask, Option.bind_some]
  by_cases h : bitsIn f n
  · have e2 : (0 : Int) ≤ f := h.1
    simp only [if_pos h]
    by_cases h0 : maskBV f.toNat n.toNat = 0#64
    · simp [h0]
    · simp [h0, e2]
  · simp [if_neg h]
theorem bits_bit (x : BitVec 64) (f n k : Nat) (hf : f + n ≤ 64) (hn : 1 ≤ n) : ((x &&& maskBV f n) >>> f).getLsbD k = (decide (k < n) && x.getLsbD (f + k)) := by
  rw [BitVec.getLsbD_ushiftRight, BitVec.getLsbD_and, mask_bit f n _ hf hn]
  by_cases h : k < n
  · simp [h]
  · simp [h]
end Go.Proofs.Ytnhcdenlbabelaa
