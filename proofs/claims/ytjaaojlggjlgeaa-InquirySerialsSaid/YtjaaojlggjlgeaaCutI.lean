/- Plain laws of chapter 7: what is cut. -/
import Derived.Test.YtjaaojlggjlgeaaRgA
import Derived.Test.YtjaaojlggjlgeaaXF
namespace Go.Proofs.Ytjaaojlggjlgeaa
open Go Go.Re
set_option linter.unusedVariables false
set_option linter.unusedSimpArgs false
/-- the first bytes, none of fewer than none -/
def cutN (x : List (BitVec 8)) (n : Int) : List (BitVec 8) := x.take n.toNat
theorem inq_cut (x : List (BitVec 8)) (n : Int) : inquiry_Cut (x, n) = some (cutN x n) := by
  simp only [inquiry_Cut, cutN]
  by_cases h : n < 0
  · simp [h, show n.toNat = 0 by omega]
  · by_cases h2 : (x.length : Int) < n
    · have c : 0 ≤ (x.length : Int) := by omega
      simp [h, h2, chk, c]
      rw [List.take_of_length_le (by omega)]
    · have c : 0 ≤ n := by omega
      have c2 : n ≤ (x.length : Int) := by omega
      simp [h, h2, chk, c, c2]
theorem ref_cut (x : List (BitVec 8)) (n : Int) (hx : x.length ≤ 2147483648) : reticuleref07_Cut (x, n) = some (cutN x n) := by
  simp only [reticuleref07_Cut, cutN]
  by_cases h : n < 0
  · simp [h, show n.toNat = 0 by omega]
  · by_cases h2 : (x.length : Int) < n
    · have c : 0 ≤ (x.length : Int) := by omega
      have c3 : x.length ≤ lim := hx
      simp [h, h2, chk, c, c3, jn]
      rw [List.take_of_length_le (by omega)]
    · have c : 0 ≤ n := by omega
      have c2 : n ≤ (x.length : Int) := by omega
      have c3 : min n.toNat x.length ≤ lim := by show _ ≤ 2147483648; omega
      have c4 : n ≤ (lim : Int) := by rw [lim_int]; omega
      simp [h, h2, chk, c, c2, c3, c4, jn]
end Go.Proofs.Ytjaaojlggjlgeaa
