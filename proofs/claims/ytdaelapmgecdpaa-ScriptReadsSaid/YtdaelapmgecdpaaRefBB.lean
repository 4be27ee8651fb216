/- Plain laws of chapter 1: how the reference reads numbers. -/
import Derived.Test.YtdaelapmgecdpaaRgA
import Derived.Test.YtdaelapmgecdpaaXF
namespace Go.Proofs.Ytdaelapmgecdpaa
open Go Go.Re
set_option linter.unusedVariables false
set_option linter.unusedSimpArgs false
theorem ref_big_loop (b p : List (BitVec 8)) (a w : Nat) (hw : w ≤ 8) (hb : b.length ≤ 140737488355328) (ha : a + w ≤ b.length) (hp : p = (b.drop a).take w) : ∀ k i n x, i + k = w → k < n → x.toNat = nv (p.take i).reverse →
    reticuleref01_Big_L0 n (b, (a : Int), (w : Int), x, (i : Int)) = some (Sum.inl (BitVec.ofNat 64 (nv p.reverse))) := by
  have hl : p.length = w := by rw [hp, List.length_take, List.length_drop]; omega
  intro k
  induction k with
  | zero =>
    intro i n x hi hn hx
    obtain ⟨n, rfl⟩ := Nat.exists_eq_succ_of_ne_zero (show n ≠ 0 by omega)
    have h : ¬ ((i : Int) < (w : Int)) := by omega
    simp only [reticuleref01_Big_L0, decide_eq_false h, cond_false]
    rw [List.take_of_length_le (by omega)] at hx
    rw [eq_ofNat hx]
  | succ k ih =>
    intro i n x hi hn hx
    obtain ⟨n, rfl⟩ := Nat.exists_eq_succ_of_ne_zero (show n ≠ 0 by omega)
    have h : ((i : Int) < (w : Int)) := by omega
    have hi' : i < p.length := by omega
    have e1 : w64 ((a : Int) + (i : Int)) = ((a + i : Nat) : Int) := by rw [w64_in] <;> omega
    have e2 : b[a + i]'(by omega) = p[i] := by subst hp; simp
    have hx' : ((x * 256#64) + p[i].setWidth 64).toNat = nv (p.take (i + 1)).reverse := by
      rw [mul256_add x p[i] _ hx (lt_56 (by simp; omega)), nv_take_rev p i hi']
    rw [← ih (i + 1) n _ (by omega) (by omega) hx', ← w64_succ i (by omega), ← e2]
    simp only [reticuleref01_Big_L0, decide_eq_true h, cond_true, e1, ix_at b (a + i) (by omega), Option.bind_some]
theorem ref_big (b : List (BitVec 8)) (a w : Int) (hb : b.length ≤ 140737488355328) :
    reticuleref01_Big (b, a, w) = some (if 1 ≤ w ∧ w ≤ 8 ∧ 0 ≤ a ∧ a ≤ (b.length : Int) - w then (BitVec.ofNat 64 (nv ((b.drop a.toNat).take w.toNat).reverse), true) else (0#64, false)) := by
  simp only [reticuleref01_Big]
  by_cases h1 : w < 1
  · rw [if_neg (by omega)]; simp [h1]
  by_cases h2 : 8 < w
  · rw [if_neg (by omega)]; simp [h1, h2]
  by_cases h3 : a < 0
  · rw [if_neg (by omega)]; simp [h1, h2, h3]
  by_cases h5 : (b.length : Int) < w
  · rw [if_neg (by omega)]; simp [h1, h2, h3, h5]
  have e1 : w64 ((b.length : Int) - w) = (b.length : Int) - w := w64_in (by omega) (by omega)
  by_cases h4 : (b.length : Int) - w < a
  · rw [if_neg (by omega)]; simp [h1, h2, h3, h5, e1, h4]
  rw [if_pos (by omega)]
  have := ref_big_loop b _ a.toNat w.toNat (by omega) hb (by omega) rfl w.toNat 0 Big 0#64 (by omega) (big_lt (by omega)) rfl
  rw [show ((a.toNat : Nat) : Int) = a by omega, show ((w.toNat : Nat) : Int) = w by omega, Int.natCast_zero] at this
  simp only [h1, h2, h3, h4, h5, e1, decide_false, cond_false, Option.bind_some, this, jn_inl]
end Go.Proofs.Ytdaelapmgecdpaa
