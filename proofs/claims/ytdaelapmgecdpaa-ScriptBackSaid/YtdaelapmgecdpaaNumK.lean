/- Plain laws of chapter 1: how numbers are read, the lowest byte first. -/
import Derived.Test.YtdaelapmgecdpaaRgA
import Derived.Test.YtdaelapmgecdpaaXF
namespace Go.Proofs.Ytdaelapmgecdpaa
open Go Go.Re
set_option linter.unusedVariables false
set_option linter.unusedSimpArgs false
theorem num_cut (b : List (BitVec 8)) (a w : Int) (hb : b.length ≤ 140737488355328) :
    number_cut (b, a, w) = some (if 1 ≤ w ∧ w ≤ 8 ∧ 0 ≤ a ∧ a ≤ (b.length : Int) - w then ((b.drop a.toNat).take w.toNat, true) else ([], false)) := by
  simp only [number_cut]
  by_cases h1 : w < 1
  · rw [if_neg (by omega)]; simp [h1]
  by_cases h2 : 8 < w
  · rw [if_neg (by omega)]; simp [h1, h2]
  by_cases h3 : a < 0
  · rw [if_neg (by omega)]; simp [h1, h2, h3]
  have e1 : w64 ((b.length : Int) - w) = (b.length : Int) - w := w64_in (by omega) (by omega)
  by_cases h4 : (b.length : Int) - w < a
  · rw [if_neg (by omega)]; simp [h1, h2, h3, e1, h4]
  have e2 : w64 (a + w) = a + w := w64_in (by omega) (by omega)
  rw [if_pos (by omega)]
  have c : (decide (0 ≤ a) && decide (a ≤ a + w) && decide (a + w ≤ (b.length : Int))) = true := by
    simp only [Bool.and_eq_true, decide_eq_true_eq]; omega
  simp only [h1, h2, h3, h4, e1, e2, decide_false, cond_false, Option.bind_some, chk_true c]
  rw [slc, show (a + w).toNat = a.toNat + w.toNat by omega, List.drop_take, show a.toNat + w.toNat - a.toNat = w.toNat by omega]
theorem num_part_len (b : List (BitVec 8)) (a w : Int) (h : 1 ≤ w ∧ w ≤ 8 ∧ 0 ≤ a ∧ a ≤ (b.length : Int) - w) : ((b.drop a.toNat).take w.toNat).length = w.toNat := by
  rw [List.length_take, List.length_drop]; omega
end Go.Proofs.Ytdaelapmgecdpaa
