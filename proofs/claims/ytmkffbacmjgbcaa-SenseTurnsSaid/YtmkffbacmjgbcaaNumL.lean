/- Plain laws of chapter 1: how numbers are put into bytes, the lowest first. -/
import Derived.Test.YtmkffbacmjgbcaaRgA
import Derived.Test.YtmkffbacmjgbcaaXF
namespace Go.Proofs.Ytmkffbacmjgbcaa
open Go Go.Re
set_option linter.unusedVariables false
set_option linter.unusedSimpArgs false
theorem putLittle_loop (x : BitVec 64) (w : Nat) (hw : w ≤ 8) : ∀ k i n, i + k = w → k < n →
    number_PutLittle_L0 n (x >>> (8 * i), leN i x, (w : Int), (i : Int)) = some (Sum.inl (leN w x)) := by
  intro k
  induction k with
  | zero =>
    intro i n hi hn
    obtain ⟨n, rfl⟩ := Nat.exists_eq_succ_of_ne_zero (show n ≠ 0 by omega)
    have h : ¬ ((i : Int) < (w : Int)) := by omega
    simp only [number_PutLittle_L0, decide_eq_false h, cond_false]
    rw [show i = w by omega]
  | succ k ih =>
    intro i n hi hn
    obtain ⟨n, rfl⟩ := Nat.exists_eq_succ_of_ne_zero (show n ≠ 0 by omega)
    have h : ((i : Int) < (w : Int)) := by omega
    have hl : (leN i x).length + ([(x >>> (8 * i)).setWidth 8] : List (BitVec 8)).length ≤ lim := by
      rw [leN_length]; show i + 1 ≤ 2147483648; omega
    have e : (x >>> (8 * i)) >>> (((8#64).toNat : Int)).toNat = x >>> (8 * (i + 1)) := by
      rw [show (((8#64).toNat : Int)).toNat = 8 from rfl, ← BitVec.shiftRight_add]; rfl
    rw [← ih (i + 1) n (by omega) (by omega), leN_succ, ← e, ← w64_succ i (by omega)]
    simp only [number_PutLittle_L0, decide_eq_true h, cond_true, chk_dec hl, Option.bind_some]
theorem putLittle_eq (x : BitVec 64) (w : Int) : number_PutLittle (x, w) = some (if 1 ≤ w ∧ w ≤ 8 then leN w.toNat x else []) := by
  simp only [number_PutLittle]
  by_cases h1 : w < 1
  · rw [if_neg (by omega)]; simp [h1]
  · by_cases h2 : 8 < w
    · rw [if_neg (by omega)]; simp [h1, h2]
    · rw [if_pos (by omega)]
      have h := putLittle_loop x w.toNat (by omega) w.toNat 0 Big (by omega) (big_lt (by omega))
      rw [show ((w.toNat : Nat) : Int) = w by omega, show x >>> (8 * 0) = x by simp] at h
      simp only [h1, h2, decide_false, cond_false, Option.bind_some, jn_inl]
      rw [show ((0 : Nat) : Int) = 0 from rfl] at h
      rw [show leN 0 x = [] from rfl] at h
      simp only [h, jn_inl]
end Go.Proofs.Ytmkffbacmjgbcaa
