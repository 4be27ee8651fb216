/- Plain laws of chapter 1: how the reference reads numbers. -/
import Derived.Test.YtkceolaolmfeaaaRgA
import Derived.Test.YtkceolaolmfeaaaXF
namespace Go.Proofs.Ytkceolaolmfeaaa
open Go Go.Re
set_option linter.unusedVariables false
set_option linter.unusedSimpArgs false
theorem ref_little_loop (b p : List (BitVec 8)) (a w : Nat) (hw : w ≤ 8) (hb : b.length ≤ 140737488355328) (ha : a + w ≤ b.length) (hp : p = (b.drop a).take w) : ∀ k n x, k ≤ w → k < n → x.toNat = nv (p.drop k) →
    reticuleref01_Little_L0 n (b, (a : Int), x, (k : Int) - 1) = some (Sum.inl (BitVec.ofNat 64 (nv p))) := by
  have hl : p.length = w := by rw [hp, List.length_take, List.length_drop]; omega
  intro k
  induction k with
  | zero =>
    intro n x hi hn hx
    obtain ⟨n, rfl⟩ := Nat.exists_eq_succ_of_ne_zero (show n ≠ 0 by omega)
    have h : ¬ ((0 : Int) ≤ ((0 : Nat) : Int) - 1) := by omega
    simp only [reticuleref01_Little_L0, decide_eq_false h, cond_false]
    rw [List.drop_zero] at hx
    rw [eq_ofNat hx]
  | succ k ih =>
    intro n x hi hn hx
    obtain ⟨n, rfl⟩ := Nat.exists_eq_succ_of_ne_zero (show n ≠ 0 by omega)
    have h : ((0 : Int) ≤ (((k + 1 : Nat) : Int) - 1)) := by omega
    have hi' : k < p.length := by omega
    have e1 : w64 ((a : Int) + (((k + 1 : Nat) : Int) - 1)) = ((a + k : Nat) : Int) := by rw [w64_in] <;> omega
    have e2 : b[a + k]'(by omega) = p[k] := by subst hp; simp
    have e3 : w64 ((((k + 1 : Nat) : Int) - 1) - 1) = (k : Int) - 1 := by rw [w64_in] <;> omega
    have hx' : ((x * 256#64) + p[k].setWidth 64).toNat = nv (p.drop k) := by
      rw [mul256_add x p[k] _ hx (lt_56 (by simp; omega)), List.drop_eq_getElem_cons hi']
      simp [nv]
    rw [← ih n _ (by omega) (by omega) hx', ← e2, ← e3]
    simp only [reticuleref01_Little_L0, decide_eq_true h, cond_true, e1, ix_at b (a + k) (by omega), Option.bind_some]
theorem ref_little (b : List (BitVec 8)) (a w : Int) (hb : b.length ≤ 140737488355328) :
    reticuleref01_Little (b, a, w) = some (if 1 ≤ w ∧ w ≤ 8 ∧ 0 ≤ a ∧ a ≤ (b.length : Int) - w then (BitVec.ofNat 64 (nv ((b.drop a.toNat).take w.toNat)), true) else (0#64, false)) := by
  simp only [reticuleref01_Little]
  by_cases h1 : w < 1
  · rw [if_neg (by omega)]; simp [h1]
  by_cases h2 : 8 < w
  · rw [if_neg (by omega)]; simp [h1, h2]
  by_cases h3 : a < 0
  · rw [if_neg (by omega)]; simp [h1, h2, h3]
  by_cases h5 : (b.length : Int) < w
  · rw [if_neg (by omega)]; simp [h1, h2, h3, h5]
  have e1 : w64 ((b.length : Int) - w) = (b.length : Int) - w := w64_in (by omega) (by omega)
  by_cases h4 : (b.length : Int) - w < a
  · rw [if_neg (by omega)]; simp [h1, h2, h3, h5, e1, h4]
  rw [if_pos (by omega)]
  have hl : ((b.drop a.toNat).take w.toNat).length = w.toNat := by rw [List.length_take, List.length_drop]; omega
  have := ref_little_loop b _ a.toNat w.toNat (by omega) hb (by omega) rfl w.toNat Big 0#64 (by omega) (big_lt (by omega)) (by rw [List.drop_of_length_le (by omega)]; rfl)
  rw [show ((a.toNat : Nat) : Int) = a by omega, show ((w.toNat : Nat) : Int) = w by omega] at this
  have e2 : w64 (w - 1) = w - 1 := w64_in (by omega) (by omega)
  simp only [h1, h2, h3, h4, h5, e1, e2, decide_false, cond_false, Option.bind_some, this, jn_inl]
end Go.Proofs.Ytkceolaolmfeaaa
