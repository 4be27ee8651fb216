/- Plain laws: pieces of bytes behind one another. -/
import Derived.Test.YtdaelapmgecdpaaRgA
import Derived.Test.YtdaelapmgecdpaaXF
namespace Go.Proofs.Ytdaelapmgecdpaa
open Go Go.Re
set_option linter.unusedVariables false
set_option linter.unusedSimpArgs false
theorem grow_eq (n : Nat) (h : n ≤ 2147483648) : slices_Grow_byte ((), (n : Int)) = some [] := by
  have h0 : ¬ ((n : Int) < 0) := by omega
  have e1 : w64 ((0 : Int) - (([] : List (BitVec 8)).length : Int)) = 0 := rfl
  have e2 : w64 ((n : Int) - 0) = (n : Int) := by rw [w64_in] <;> omega
  simp only [slices_Grow_byte, decide_eq_false h0, cond_false, e1, e2]
  by_cases h1 : (0 : Int) < (n : Int)
  · have c1 : (decide (0 ≤ (n : Int)) && decide ((n : Int) ≤ (lim : Int)) && decide ((List.replicate (n : Int).toNat (0#8)).length ≤ lim)) = true := by
      simp only [Bool.and_eq_true, decide_eq_true_eq]
      refine ⟨⟨by omega, by rw [lim_int]; omega⟩, ?_⟩
      rw [List.length_replicate]; show (n : Int).toNat ≤ 2147483648; omega
    have c2 : (decide (0 ≤ (([] : List (BitVec 8)).length : Int)) && decide ((([] : List (BitVec 8)).length : Int) ≤ ((List.replicate (n : Int).toNat (0#8)).length : Int))) = true := by
      simp
    simp only [decide_eq_true h1, cond_true, chk_true c1, chk_true c2, chk_true (show (decide (0 ≤ (0 : Int)) && decide ((0 : Int) ≤ (0 : Int))) = true from rfl), Option.bind_some, jn_inl]
    simp
  · simp only [decide_eq_false h1, cond_false, jn_inl, Option.bind_some]
theorem flat_take {α : Type} (l : List (List α)) (i : Nat) (h : i < l.length) : (l.take (i + 1)).flatten = (l.take i).flatten ++ l[i] := by
  rw [List.take_add_one, List.getElem?_eq_getElem h, List.flatten_append]
  simp only [Option.toList, List.flatten_cons, List.flatten_nil, List.append_nil]
theorem flat_le {α : Type} (l : List (List α)) (i : Nat) : (l.take i).flatten.length ≤ l.flatten.length := by
  have : l.flatten = (l.take i).flatten ++ (l.drop i).flatten := by rw [← List.flatten_append, List.take_append_drop]
  rw [this]; simp
theorem concat_loop0 (l : List (List (BitVec 8))) (hf : l.flatten.length ≤ 2147483648) (hl : l.length ≤ 2147483648) : ∀ k i n, i + k = l.length → k < n →
    slices_Concat_byte_L0 n (l, ((l.take i).flatten.length : Int), l, (l.length : Int), (i : Int)) = some (Sum.inl (l, (l.flatten.length : Int))) := by
  intro k
  induction k with
  | zero =>
    intro i n hi hn
    obtain ⟨n, rfl⟩ := Nat.exists_eq_succ_of_ne_zero (show n ≠ 0 by omega)
    have h : ¬ ((i : Int) < (l.length : Int)) := by omega
    simp only [slices_Concat_byte_L0, decide_eq_false h, cond_false]
    rw [List.take_of_length_le (by omega)]
  | succ k ih =>
    intro i n hi hn
    obtain ⟨n, rfl⟩ := Nat.exists_eq_succ_of_ne_zero (show n ≠ 0 by omega)
    have h : ((i : Int) < (l.length : Int)) := by omega
    have hi' : i < l.length := by omega
    have hfl := flat_le l (i + 1)
    have e0 : ((l.take (i + 1)).flatten.length : Int) = ((l.take i).flatten.length : Int) + (l[i].length : Int) := by
      rw [flat_take l i hi', List.length_append]; omega
    have e1 : w64 (((l.take i).flatten.length : Int) + (l[i].length : Int)) = ((l.take (i + 1)).flatten.length : Int) := by
      rw [← e0, w64_in] <;> omega
    have h2 : ¬ (((l.take (i + 1)).flatten.length : Int) < 0) := by omega
    rw [← ih (i + 1) n (by omega) (by omega), ← w64_succ i (by omega)]
    simp only [slices_Concat_byte_L0, decide_eq_true h, cond_true, ix_at l i hi', Option.bind_some, e1, decide_eq_false h2, cond_false]
theorem concat_loop1 (l : List (List (BitVec 8))) (hf : l.flatten.length ≤ 2147483648) (hl : l.length ≤ 2147483648) : ∀ k i n, i + k = l.length → k < n →
    slices_Concat_byte_L1 n ((l.take i).flatten, l, (l.length : Int), (i : Int)) = some (Sum.inl l.flatten) := by
  intro k
  induction k with
  | zero =>
    intro i n hi hn
    obtain ⟨n, rfl⟩ := Nat.exists_eq_succ_of_ne_zero (show n ≠ 0 by omega)
    have h : ¬ ((i : Int) < (l.length : Int)) := by omega
    simp only [slices_Concat_byte_L1, decide_eq_false h, cond_false]
    rw [List.take_of_length_le (by omega)]
  | succ k ih =>
    intro i n hi hn
    obtain ⟨n, rfl⟩ := Nat.exists_eq_succ_of_ne_zero (show n ≠ 0 by omega)
    have h : ((i : Int) < (l.length : Int)) := by omega
    have hi' : i < l.length := by omega
    have hfl := flat_le l (i + 1)
    have c : (l.take i).flatten.length + l[i].length ≤ lim := by
      rw [flat_take l i hi', List.length_append] at hfl
      show _ ≤ 2147483648; omega
    rw [← ih (i + 1) n (by omega) (by omega), ← w64_succ i (by omega), flat_take l i hi']
    simp only [slices_Concat_byte_L1, decide_eq_true h, cond_true, ix_at l i hi', Option.bind_some, chk_dec c]
theorem concat_eq (l : List (List (BitVec 8))) (hf : l.flatten.length ≤ 2147483648) (hl : l.length ≤ 2147483648) : slices_Concat_byte l = some l.flatten := by
  have h0 := concat_loop0 l hf hl l.length 0 Big (by omega) (big_lt (by omega))
  have h1 := concat_loop1 l hf hl l.length 0 Big (by omega) (big_lt (by omega))
  simp only [List.take_zero, List.flatten_nil, List.length_nil, Int.natCast_zero] at h0 h1
  simp only [slices_Concat_byte, h0, jn_inl, grow_eq _ hf, Option.bind_some, h1]
end Go.Proofs.Ytdaelapmgecdpaa
