/- Plain laws of chapter 1: how numbers are put into bytes, the highest first. -/
import Derived.Test.YtmkffbacmjgbcaaNumL
namespace Go.Proofs.Ytmkffbacmjgbcaa
open Go Go.Re
set_option linter.unusedVariables false
set_option linter.unusedSimpArgs false
theorem reverse_loop (l : List (BitVec 8)) (hl : l.length ≤ 2147483648) : ∀ k i j n (m : List (BitVec 8)), (j - i : Int).toNat ≤ 2 * k → k < n → 0 ≤ i → i + j = (l.length : Int) - 1 → i ≤ j + 2 → m.length = l.length →
    (∀ p : Nat, p < l.length → m[p]? = if (p : Int) < i ∨ j < (p : Int) then l.reverse[p]? else l[p]?) →
    slices_Reverse_byte_L0 n (m, i, j) = some (Sum.inl l.reverse) := by
  intro k
  induction k with
  | zero =>
    intro i j n m hk hn h0 hij h2 hm hp
    obtain ⟨n, rfl⟩ := Nat.exists_eq_succ_of_ne_zero (show n ≠ 0 by omega)
    have h : ¬ (i < j) := by omega
    simp only [slices_Reverse_byte_L0, decide_eq_false h, cond_false]
    congr 2
    apply List.ext_getElem?
    intro p
    by_cases hp' : p < l.length
    · rw [hp p hp']
      split
      · rfl
      · rw [List.getElem?_reverse (by omega)]
        congr 1; omega
    · rw [List.getElem?_eq_none (by omega), List.getElem?_eq_none (by simp; omega)]
  | succ k ih =>
    intro i j n m hk hn h0 hij h2 hm hp
    obtain ⟨n, rfl⟩ := Nat.exists_eq_succ_of_ne_zero (show n ≠ 0 by omega)
    by_cases h : i < j
    · have hi : i.toNat < l.length := by omega
      have hj : j.toNat < l.length := by omega
      have e1 : m[j.toNat]? = some (l[j.toNat]'hj) := by
        rw [hp _ hj, if_neg (by omega), List.getElem?_eq_getElem hj]
      have e2 : m[i.toNat]? = some (l[i.toNat]'hi) := by
        rw [hp _ hi, if_neg (by omega), List.getElem?_eq_getElem hi]
      have c1 : inLen j m.length = true := inLen_ok (by omega) (by omega)
      have c2 : inLen i m.length = true := inLen_ok (by omega) (by omega)
      have c3 : inLen j (m.set i.toNat (l[j.toNat]'hj)).length = true := inLen_ok (by omega) (by simp; omega)
      simp only [slices_Reverse_byte_L0, decide_eq_true h, cond_true, e1, e2, chk_true c1, chk_true c2, chk_true c3, Option.bind_some]
      rw [show w64 (i + 1) = i + 1 from w64_in (by omega) (by omega), show w64 (j - 1) = j - 1 from w64_in (by omega) (by omega)]
      refine ih (i + 1) (j - 1) n _ (by omega) (by omega) (by omega) (by omega) (by omega) (by simp [hm]) fun p hp' => ?_
      rw [List.getElem?_set, List.getElem?_set]
      by_cases q1 : j.toNat = p
      · subst q1
        rw [if_pos rfl, if_pos (by simp; omega), if_pos (by omega), List.getElem?_reverse (by omega), ← List.getElem?_eq_getElem hi]
        congr 1; omega
      · rw [if_neg q1]
        by_cases q2 : i.toNat = p
        · subst q2
          rw [if_pos rfl, if_pos (by omega), if_pos (by omega), List.getElem?_reverse (by omega), ← List.getElem?_eq_getElem hj]
          congr 1; omega
        · rw [if_neg q2, hp p hp']
          by_cases q3 : (p : Int) < i ∨ j < (p : Int)
          · rw [if_pos q3, if_pos (by omega)]
          · rw [if_neg q3, if_neg (by omega)]
    · simp only [slices_Reverse_byte_L0, decide_eq_false h, cond_false]
      congr 2
      apply List.ext_getElem?
      intro p
      by_cases hp' : p < l.length
      · rw [hp p hp']
        split
        · rfl
        · rw [List.getElem?_reverse (by omega)]
          congr 1; omega
      · rw [List.getElem?_eq_none (by omega), List.getElem?_eq_none (by simp; omega)]
theorem reverse_eq (l : List (BitVec 8)) (hl : l.length ≤ 2147483648) : slices_Reverse_byte l = some l.reverse := by
  simp only [slices_Reverse_byte]
  rw [show w64 ((l.length : Int) - 1) = (l.length : Int) - 1 from w64_in (by omega) (by omega)]
  rw [reverse_loop l hl (l.length) 0 ((l.length : Int) - 1) Big l (by omega) (big_lt (by omega)) (by omega) (by omega) (by omega) rfl (fun p hp => by rw [if_neg (by omega)])]
  rfl
theorem putBig_eq (x : BitVec 64) (w : Int) : number_PutBig (x, w) = some (if 1 ≤ w ∧ w ≤ 8 then (leN w.toNat x).reverse else []) := by
  simp only [number_PutBig, putLittle_eq, Option.bind_some]
  split
  · rw [reverse_eq _ (by rw [leN_length]; omega)]; rfl
  · rw [reverse_eq _ (by simp)]; rfl
end Go.Proofs.Ytmkffbacmjgbcaa
