/- Plain laws of chapter 1: how the reference puts numbers into bytes. -/
import Derived.Test.YtnhcdenlbabelaaRgA
import Derived.Test.YtnhcdenlbabelaaXF
namespace Go.Proofs.Ytnhcdenlbabelaa
open Go Go.Re
set_option linter.unusedVariables false
set_option linter.unusedSimpArgs false
theorem div256 (x : BitVec 64) : x / 256#64 = x >>> 8 := by
  apply BitVec.eq_of_toNat_eq
  rw [BitVec.toNat_udiv, BitVec.toNat_ushiftRight, Nat.shiftRight_eq_div_pow]; rfl
theorem mod256 (x : BitVec 64) : (x % 256#64).setWidth 8 = x.setWidth 8 := by
  apply BitVec.eq_of_toNat_eq
  rw [BitVec.toNat_setWidth, BitVec.toNat_setWidth, BitVec.toNat_umod]
  show (x.toNat % 256) % 256 = x.toNat % 256
  omega
theorem ref_putLittle_loop (x : BitVec 64) (w : Nat) (hw : w ≤ 8) : ∀ k i n, i + k = w → k < n →
    reticuleref01_PutLittle_L0 n (x >>> (8 * i), (w : Int), leN i x ++ List.replicate k (0#8), (i : Int)) = some (Sum.inl (leN w x)) := by
  intro k
  induction k with
  | zero =>
    intro i n hi hn
    obtain ⟨n, rfl⟩ := Nat.exists_eq_succ_of_ne_zero (show n ≠ 0 by omega)
    have h : ¬ ((i : Int) < (w : Int)) := by omega
    simp only [reticuleref01_PutLittle_L0, decide_eq_false h, cond_false]
    rw [show i = w by omega]; simp
  | succ k ih =>
    intro i n hi hn
    obtain ⟨n, rfl⟩ := Nat.exists_eq_succ_of_ne_zero (show n ≠ 0 by omega)
    have h : ((i : Int) < (w : Int)) := by omega
    have hl : inLen (i : Int) (leN i x ++ List.replicate (k + 1) (0#8)).length = true := inLen_nat (by simp [leN_length])
    have e : (x >>> (8 * i)) >>> 8 = x >>> (8 * (i + 1)) := by rw [← BitVec.shiftRight_add]; rfl
    have e2 : (leN i x ++ List.replicate (k + 1) (0#8)).set i ((x >>> (8 * i)).setWidth 8) = leN (i + 1) x ++ List.replicate k (0#8) := by
      have := set_at (leN i x) (List.replicate k (0#8)) ((x >>> (8 * i)).setWidth 8) 0#8
      rw [leN_length] at this
      rw [List.replicate_succ, this, leN_succ]; simp
    rw [← ih (i + 1) n (by omega) (by omega), ← e, ← e2, ← w64_succ i (by omega)]
    simp only [reticuleref01_PutLittle_L0, decide_eq_true h, cond_true, chk_true hl, Option.bind_some, div256, mod256, Int.toNat_natCast]
theorem ref_putLittle (x : BitVec 64) (w : Int) : reticuleref01_PutLittle (x, w) = some (if 1 ≤ w ∧ w ≤ 8 then leN w.toNat x else []) := by
  simp only [reticuleref01_PutLittle]
  by_cases h1 : w < 1
  · rw [if_neg (by omega)]; simp [h1]
  · by_cases h2 : 8 < w
    · rw [if_neg (by omega)]; simp [h1, h2]
    · rw [if_pos (by omega)]
      have h := ref_putLittle_loop x w.toNat (by omega) w.toNat 0 Big (by omega) (big_lt (by omega))
      rw [show ((w.toNat : Nat) : Int) = w by omega, show x >>> (8 * 0) = x by simp, Int.natCast_zero, show leN 0 x = [] from rfl, List.nil_append] at h
      have c : (decide (0 ≤ w) && decide (w ≤ w) && decide (w ≤ (lim : Int))) = true := by
        have hc : w ≤ (lim : Int) := by rw [lim_int]; omega
        simp only [Bool.and_eq_true, decide_eq_true_eq]
        exact ⟨⟨by omega, by omega⟩, hc⟩
      simp only [h1, h2, decide_false, cond_false, Option.bind_some, chk_true c, h, jn_inl]
end Go.Proofs.Ytnhcdenlbabelaa
