/- Plain laws of chapter 16: an endpoint is right just if the reference says so. -/
import Derived.Test.YtanfodimfgmbdaaP1
namespace Go.Proofs.Ytanfodimfgmbdaa
open Go Go.Re
set_option linter.unusedVariables false
set_option linter.unusedSimpArgs false
theorem and_one (x : Int) : BitVec.toInt (BitVec.ofInt 64 x &&& BitVec.ofInt 64 1) = x % 2 := by
  have h : (BitVec.ofInt 64 x &&& BitVec.ofInt 64 1).toNat = (x % 2).toNat := by
    rw [BitVec.toNat_and, show (BitVec.ofInt 64 1).toNat = 1 from rfl, Nat.and_one_is_mod, BitVec.toNat_ofInt]
    omega
  rw [BitVec.toInt_eq_toNat_cond, h]
  split <;> omega
theorem right_eq (x) : endpoint_Right x = reticuleref16_Right x := by
  obtain ⟨h, t, w, s, d, u⟩ := x
  simp only [endpoint_Right, reticuleref16_Right, and_one, endpoint_Flush, endpoint_Same, bytes_Equal]
  by_cases h2 : (d.length : Int) ≤ 64
  · have h3 : d.length ≤ 2147483648 := by omega
    by_cases h1 : t = 0
    · subst h1; cases w <;> simp [h2, chk, lim, h3]
      cases d <;> simp
      all_goals (by_cases hs : s = 0 <;> simp [hs])
    · by_cases h4 : t = 1
      · subst h4; cases w <;> simp [h2, chk, lim, h3]
        cases d <;> simp
        all_goals (by_cases hs : s = 0 <;> simp [hs])
      · have h5 : ¬ t = t % 2 := by omega
        simp [h1, h4, h5]
  · by_cases h1 : t = 0
    · subst h1; simp [h2]
    · by_cases h4 : t = 1
      · subst h4; simp [h2]
      · have h5 : ¬ t = t % 2 := by omega
        simp [h1, h4, h5]
end Go.Proofs.Ytanfodimfgmbdaa
