/- Plain laws of chapter 1: how the reference puts numbers into bytes. -/
import Derived.Test.YtdaelapmgecdpaaRgA
import Derived.Test.YtdaelapmgecdpaaXF
namespace Go.Proofs.Ytdaelapmgecdpaa
open Go Go.Re
set_option linter.unusedVariables false
set_option linter.unusedSimpArgs false
theorem div256 (x : BitVec 64) : x / 256#64 = x >>> 8 := by
  apply BitVec.eq_of_toNat_eq
  rw [BitVec.toNat_udiv, BitVec.toNat_ushiftRight, Nat.shiftRight_eq_div_pow]; rfl
theorem mod256 (x : BitVec 64) : (x % 256#64).setWidth 8 = x.setWidth 8 := by
  apply BitVec.eq_of_toNat_eq
  rw [BitVec.toNat_setWidth, BitVec.toNat_setWidth, BitVec.toNat_umod]
  show (x.toNat % 256) % 256 = x.toNat % 256
  omega
theorem ref_putBig_loop (x : BitVec 64) (w : Nat) (hw : w ≤ 8) : ∀ k n, k ≤ w → k < n →
    reticuleref01_PutBig_L0 n (x >>> (8 * (w - k)), List.replicate k (0#8) ++ (leN (w - k) x).reverse, (k : Int) - 1) = some (Sum.inl (leN w x).reverse) := by
  intro k
  induction k with
  | zero =>
    intro n hi hn
    obtain ⟨n, rfl⟩ := Nat.exists_eq_succ_of_ne_zero (show n ≠ 0 by omega)
    have h : ¬ ((0 : Int) ≤ ((0 : Nat) : Int) - 1) := by omega
    simp only [reticuleref01_PutBig_L0, decide_eq_false h, cond_false]
    simp
  | succ k ih =>
    intro n hi hn
    obtain ⟨n, rfl⟩ := Nat.exists_eq_succ_of_ne_zero (show n ≠ 0 by omega)
    have h : ((0 : Int) ≤ (((k + 1 : Nat) : Int) - 1)) := by omega
    have h' : (0 : Int) ≤ (k : Int) := by omega
    have e0 : (((k + 1 : Nat) : Int) - 1) = (k : Int) := by omega
    have hl : inLen (k : Int) (List.replicate (k + 1) (0#8) ++ (leN (w - (k + 1)) x).reverse).length = true := inLen_nat (by simp [leN_length]; omega)
    have e : (x >>> (8 * (w - (k + 1)))) >>> 8 = x >>> (8 * (w - k)) := by
      rw [← BitVec.shiftRight_add]; congr 1; omega
    have e2 : (List.replicate (k + 1) (0#8) ++ (leN (w - (k + 1)) x).reverse).set k ((x >>> (8 * (w - (k + 1)))).setWidth 8) = List.replicate k (0#8) ++ (leN (w - k) x).reverse := by
      have := set_at (List.replicate k (0#8)) ((leN (w - (k + 1)) x).reverse) ((x >>> (8 * (w - (k + 1)))).setWidth 8) 0#8
      rw [List.length_replicate] at this
      rw [List.replicate_succ', List.append_assoc, List.singleton_append, this, show w - k = w - (k + 1) + 1 by omega, leN_succ]
      simp
    have e3 : w64 ((k : Int) - 1) = (k : Int) - 1 := by rw [w64_in] <;> omega
    rw [← ih n (by omega) (by omega), ← e, ← e2]
    simp only [reticuleref01_PutBig_L0, e0, decide_eq_true h', cond_true, chk_true hl, Option.bind_some, div256, mod256, Int.toNat_natCast, e3]
theorem ref_putBig (x : BitVec 64) (w : Int) : reticuleref01_PutBig (x, w) = some (if 1 ≤ w ∧ w ≤ 8 then (leN w.toNat x).reverse else []) := by
  simp only [reticuleref01_PutBig]
  by_cases h1 : w < 1
  · rw [if_neg (by omega)]; simp [h1]
  · by_cases h2 : 8 < w
    · rw [if_neg (by omega)]; simp [h1, h2]
    · rw [if_pos (by omega)]
      have h := ref_putBig_loop x w.toNat (by omega) w.toNat Big (by omega) (big_lt (by omega))
      rw [show ((w.toNat : Nat) : Int) = w by omega, Nat.sub_self, show x >>> (8 * 0) = x by simp, show leN 0 x = [] from rfl, List.reverse_nil, List.append_nil] at h
      have c : (decide (0 ≤ w) && decide (w ≤ w) && decide (w ≤ (lim : Int))) = true := by
        have hc : w ≤ (lim : Int) := by rw [lim_int]; omega
        simp only [Bool.and_eq_true, decide_eq_true_eq]
        exact ⟨⟨by omega, by omega⟩, hc⟩
      have e2 : w64 (w - 1) = w - 1 := w64_in (by omega) (by omega)
      simp only [h1, h2, decide_false, cond_false, Option.bind_some, chk_true c, e2, h, jn_inl]
end Go.Proofs.Ytdaelapmgecdpaa
