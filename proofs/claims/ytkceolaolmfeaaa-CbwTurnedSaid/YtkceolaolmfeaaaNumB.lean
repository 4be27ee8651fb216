/- Plain laws of chapter 1: how numbers are read, the lowest byte first. -/
import Derived.Test.YtkceolaolmfeaaaRgA
import Derived.Test.YtkceolaolmfeaaaXF
namespace Go.Proofs.Ytkceolaolmfeaaa
open Go Go.Re
set_option linter.unusedVariables false
set_option linter.unusedSimpArgs false
theorem num_cut (b : List (BitVec 8)) (a w : Int) (hb : b.length ≤ 140737488355328) :
    number_cut (b, a, w) = some (if 1 ≤ w ∧ w ≤ 8 ∧ 0 ≤ a ∧ a ≤ (b.length : Int) - w then ((b.drop a.toNat).take w.toNat, true) else ([], false)) := by
  simp only [number_cut]
  by_cases h1 : w < 1
  · rw [if_neg (by omega)]; simp [h1]
  by_cases h2 : 8 < w
  · rw [if_neg (by omega)]; simp [h1, h2]
  by_cases h3 : a < 0
  · rw [if_neg (by omega)]; simp [h1, h2, h3]
  have e1 : w64 ((b.length : Int) - w) = (b.length : Int) - w := w64_in (by omega) (by omega)
  by_cases h4 : (b.length : Int) - w < a
  · rw [if_neg (by omega)]; simp [h1, h2, h3, e1, h4]
  have e2 : w64 (a + w) = a + w := w64_in (by omega) (by omega)
  rw [if_pos (by omega)]
  have c : (decide (0 ≤ a) && decide (a ≤ a + w) && decide (a + w ≤ (b.length : Int))) = true := by
    simp only [Bool.and_eq_true, decide_eq_true_eq]; omega
  simp only [h1, h2, h3, h4, e1, e2, decide_false, cond_false, Option.bind_some, chk_true c]
  rw [slc, show (a + w).toNat = a.toNat + w.toNat by omega, List.drop_take, show a.toNat + w.toNat - a.toNat = w.toNat by omega]
theorem num_part_len (b : List (BitVec 8)) (a w : Int) (h : 1 ≤ w ∧ w ≤ 8 ∧ 0 ≤ a ∧ a ≤ (b.length : Int) - w) : ((b.drop a.toNat).take w.toNat).length = w.toNat := by
  rw [List.length_take, List.length_drop]; omega
theorem num_little_loop (p : List (BitVec 8)) (ok : Bool) (hp : p.length ≤ 8) : ∀ k i n x, i + k = p.length → k < n → x.toNat = nv (p.take i) →
    number_Little_L0 n (x, ok, p, (p.length : Int), (i : Int)) = some (Sum.inl (BitVec.ofNat 64 (nv p), ok)) := by
  intro k
  induction k with
  | zero =>
    intro i n x hi hn hx
    obtain ⟨n, rfl⟩ := Nat.exists_eq_succ_of_ne_zero (show n ≠ 0 by omega)
    have h : ¬ ((i : Int) < (p.length : Int)) := by omega
    simp only [number_Little_L0, decide_eq_false h, cond_false]
    rw [List.take_of_length_le (by omega)] at hx
    rw [eq_ofNat hx]
  | succ k ih =>
    intro i n x hi hn hx
    obtain ⟨n, rfl⟩ := Nat.exists_eq_succ_of_ne_zero (show n ≠ 0 by omega)
    have h : ((i : Int) < (p.length : Int)) := by omega
    have hi' : i < p.length := by omega
    have e1 : w64 ((8 : Int) * (i : Int)) = ((8 * i : Nat) : Int) := by rw [w64_in] <;> omega
    have e2 : (0 : Int) ≤ ((8 * i : Nat) : Int) := by omega
    have hv : nv (p.take i) < 256 ^ i := by
      have := nv_lt (p.take i); rwa [List.length_take, Nat.min_eq_left (by omega)] at this
    have hx' : (x ||| (p[i].setWidth 64 <<< (8 * i))).toNat = nv (p.take (i + 1)) := by
      rw [or_shl x p[i] _ i hx (by omega) hv, List.take_add_one, List.getElem?_eq_getElem hi', nv_append, List.length_take, Nat.min_eq_left (by omega)]
      simp [nv]
    rw [← ih (i + 1) n _ (by omega) (by omega) hx', ← w64_succ i (by omega)]
    simp only [number_Little_L0, decide_eq_true h, cond_true, ix_at p i hi', Option.bind_some, e1, decide_eq_true e2, Int.toNat_natCast]
theorem num_little (b : List (BitVec 8)) (a w : Int) (hb : b.length ≤ 140737488355328) :
    number_Little (b, a, w) = some (if 1 ≤ w ∧ w ≤ 8 ∧ 0 ≤ a ∧ a ≤ (b.length : Int) - w then (BitVec.ofNat 64 (nv ((b.drop a.toNat).take w.toNat)), true) else (0#64, false)) := by
  simp only [number_Little, num_cut b a w hb, Option.bind_some]
  split
  · rename_i h
    have hl := num_part_len b a w h
    have := num_little_loop ((b.drop a.toNat).take w.toNat) true (by omega) _ 0 Big 0#64 (Nat.zero_add _) (big_lt (by omega)) rfl
    simp only [Int.natCast_zero] at this
    simp only [this, jn_inl]
  · rfl
end Go.Proofs.Ytkceolaolmfeaaa
