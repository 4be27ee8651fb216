/- Attentions: what chapter 24 takes of chapter 4. -/
import Derived.Test.YtgceolpeegfkkaaTagQ
namespace Go.Proofs.Ytgceolpeegfkkaa
open Go Go.Re
set_option linter.unusedVariables false
set_option linter.unusedSimpArgs false
abbrev Sense := Int × (Int × (Int × Unit))
theorem sense_dec (a b : Sense) : ((decide (a.1 = b.1)) && ((decide (a.2.1 = b.2.1)) && ((decide (a.2.2.1 = b.2.2.1)) && true))) = decide (a = b) := by
  obtain ⟨a1, a2, a3, u⟩ := a
  obtain ⟨b1, b2, b3, v⟩ := b
  rw [Bool.eq_iff_iff]
  simp only [Bool.and_eq_true, decide_eq_true_eq, Prod.mk.injEq]
theorem sn_index_loop (l : List Sense) (s : Sense) (hs : l.length ≤ 100) : ∀ k i n, i + k = l.length → k < n →
    (s ∈ l.drop i ∧ ∃ j : Nat, slices_Index_api_Sense_L0 n (l, s, (l.length : Int), (i : Int)) = some (Sum.inr (j : Int))) ∨ (s ∉ l.drop i ∧ slices_Index_api_Sense_L0 n (l, s, (l.length : Int), (i : Int)) = some (Sum.inl ())) := by
  intro k
  induction k with
  | zero =>
    intro i n hi hn
    obtain ⟨n, rfl⟩ := Nat.exists_eq_succ_of_ne_zero (show n ≠ 0 by omega)
    have h : ¬ ((i : Int) < (l.length : Int)) := by omega
    right
    rw [List.drop_eq_nil_of_le (by omega)]
    exact ⟨by simp, by simp only [slices_Index_api_Sense_L0, decide_eq_false h, cond_false]⟩
  | succ k ih =>
    intro i n hi hn
    obtain ⟨n, rfl⟩ := Nat.exists_eq_succ_of_ne_zero (show n ≠ 0 by omega)
    have h : ((i : Int) < (l.length : Int)) := by omega
    have h1 : i < l.length := by omega
    rw [List.drop_eq_getElem_cons h1]
    simp only [slices_Index_api_Sense_L0, decide_eq_true h, cond_true, ix_at l i h1, Option.bind_some, sense_dec]
    by_cases he : s = l[i]
    · left; exact ⟨by rw [← he]; simp, i, by simp only [he, decide_true, cond_true]⟩
    · simp only [decide_eq_false he, cond_false, w64_succ i (by omega)]
      rcases ih (i + 1) n (by omega) (by omega) with ⟨g1, g2⟩ | ⟨g1, g2⟩
      · left; exact ⟨List.mem_cons_of_mem _ g1, g2⟩
      · right; exact ⟨fun hm => (List.mem_cons.1 hm).elim he g1, g2⟩
theorem sn_contains_eq (l : List Sense) (s : Sense) (hs : l.length ≤ 100) : slices_Contains_api_Sense (l, s) = some (decide (s ∈ l)) := by
  simp only [slices_Contains_api_Sense, slices_Index_api_Sense]
  have := sn_index_loop l s hs l.length 0 Big (by omega) (big_lt (by omega))
  rw [List.drop_zero, Int.natCast_zero] at this
  rcases this with ⟨g1, j, g2⟩ | ⟨g1, g2⟩
  · simp only [g2, jn_inr, Option.bind_some, decide_eq_true g1]
    rw [decide_eq_true (show (0 : Int) ≤ (j : Int) by omega)]
  · simp only [g2, jn_inl, Option.bind_some, decide_eq_false g1]
    rfl
theorem sn_has_loop (l : List Sense) (s : Sense) (hs : l.length ≤ 100) : ∀ k i n, i + k = l.length → k < n →
    reticuleref04_Has_L0 n (l, s, (i : Int)) = some (if s ∈ l.drop i then Sum.inr true else Sum.inl ()) := by
  intro k
  induction k with
  | zero =>
    intro i n hi hn
    obtain ⟨n, rfl⟩ := Nat.exists_eq_succ_of_ne_zero (show n ≠ 0 by omega)
    have h : ¬ ((i : Int) < (l.length : Int)) := by omega
    rw [List.drop_eq_nil_of_le (by omega)]
    simp only [reticuleref04_Has_L0, decide_eq_false h, cond_false]
    simp
  | succ k ih =>
    intro i n hi hn
    obtain ⟨n, rfl⟩ := Nat.exists_eq_succ_of_ne_zero (show n ≠ 0 by omega)
    have h : ((i : Int) < (l.length : Int)) := by omega
    have h1 : i < l.length := by omega
    rw [List.drop_eq_getElem_cons h1]
    simp only [reticuleref04_Has_L0, decide_eq_true h, cond_true, ix_at l i h1, Option.bind_some, sense_dec]
    by_cases he : l[i] = s
    · rw [decide_eq_true he, if_pos (by rw [he]; simp)]; rfl
    · have hc : (s ∈ l[i] :: l.drop (i + 1)) ↔ s ∈ l.drop (i + 1) := ⟨fun hm => (List.mem_cons.1 hm).elim (fun e => absurd e.symm he) id, List.mem_cons_of_mem _⟩
      simp only [decide_eq_false he, cond_false, w64_succ i (by omega), ih (i + 1) n (by omega) (by omega)]
      by_cases hm : s ∈ l.drop (i + 1)
      · rw [if_pos hm, if_pos (hc.2 hm)]
      · rw [if_neg hm, if_neg (fun h => hm (hc.1 h))]
theorem sn_has_eq (l : List Sense) (s : Sense) (hs : l.length ≤ 100) : reticuleref04_Has (l, s) = some (decide (s ∈ l)) := by
  have := sn_has_loop l s hs l.length 0 Big (by omega) (big_lt (by omega))
  rw [List.drop_zero, Int.natCast_zero] at this
  simp only [reticuleref04_Has, this]
  by_cases hm : s ∈ l
  · rw [if_pos hm, decide_eq_true hm]; rfl
  · rw [if_neg hm, decide_eq_false hm]; rfl
def powerOn : Sense := (6, 41, 0, ())
def addL (l : List Sense) (s : Sense) : List Sense := if s ∈ l then l else if s = powerOn then [s] else if 4 ≤ l.length then l else l ++ [s]
theorem sn_add_eq (l : List Sense) (s : Sense) (hs : l.length ≤ 100) : sense_Add (l, s) = some (addL l s) ∧ reticuleref04_Add (l, s) = some (addL l s) := by
  have c1 : ([] : List Sense).length + l.length ≤ lim := by show 0 + _ ≤ 2147483648; omega
  have c2 : l.length + ([s] : List Sense).length ≤ lim := by show _ + 1 ≤ 2147483648; omega
  have hp : sense_PowerOn () = some powerOn := rfl
  have ho : reticuleref04_Of (6, 41, 0) = some powerOn := rfl
  have hclip : slices_Clip_api_Sense l = some l := by
    have c : ((decide (0 ≤ (l.length : Int)) && decide ((l.length : Int) ≤ (l.length : Int))) && decide ((l.length : Int) = (l.length : Int))) = true := by simp
    unfold slices_Clip_api_Sense
    rw [c]
    simp only [chk, cond_true, Option.bind_some, Int.toNat_natCast, List.take_length]
  unfold addL
  by_cases h1 : s ∈ l
  · rw [if_pos h1]
    constructor
    · simp only [sense_Add, sn_contains_eq l s hs, decide_eq_true h1, Option.bind_some, cond_true]
    · simp only [reticuleref04_Add, chk_dec c1, sn_has_eq l s hs, decide_eq_true h1, Option.bind_some, cond_true, List.nil_append]
  · rw [if_neg h1]
    by_cases h2 : s = powerOn
    · rw [if_pos h2]
      constructor
      · simp only [sense_Add, sn_contains_eq l s hs, decide_eq_false h1, Option.bind_some, cond_false, hp, sense_dec, decide_eq_true h2, cond_true]
      · simp only [reticuleref04_Add, chk_dec c1, sn_has_eq l s hs, decide_eq_false h1, Option.bind_some, cond_false, ho, sense_dec, decide_eq_true h2, cond_true]
    · rw [if_neg h2]
      by_cases h3 : 4 ≤ l.length
      · have h3' : (4 : Int) ≤ (l.length : Int) := by omega
        rw [if_pos h3]
        constructor
        · simp only [sense_Add, sn_contains_eq l s hs, decide_eq_false h1, Option.bind_some, cond_false, hp, sense_dec, decide_eq_false h2, decide_eq_true h3', cond_true]
        · simp only [reticuleref04_Add, chk_dec c1, sn_has_eq l s hs, decide_eq_false h1, Option.bind_some, cond_false, ho, sense_dec, decide_eq_false h2, decide_eq_true h3', cond_true, List.nil_append]
      · have h3' : ¬ ((4 : Int) ≤ (l.length : Int)) := by omega
        rw [if_neg h3]
        constructor
        · simp only [sense_Add, sn_contains_eq l s hs, decide_eq_false h1, Option.bind_some, cond_false, hp, sense_dec, decide_eq_false h2, decide_eq_false h3', hclip, chk_dec c2]
        · simp only [reticuleref04_Add, chk_dec c1, sn_has_eq l s hs, decide_eq_false h1, Option.bind_some, cond_false, ho, sense_dec, decide_eq_false h2, decide_eq_false h3', List.nil_append, chk_dec c2]
theorem sn_same_loop (l : List Sense) (hs : l.length ≤ 200) : ∀ k i n, i + k = l.length → k < n → reticuleref04_Same_L0 n (l, l, (i : Int)) = some (Sum.inl ()) := by
  intro k
  induction k with
  | zero =>
    intro i n hi hn
    obtain ⟨n, rfl⟩ := Nat.exists_eq_succ_of_ne_zero (show n ≠ 0 by omega)
    have h : ¬ ((i : Int) < (l.length : Int)) := by omega
    simp only [reticuleref04_Same_L0, decide_eq_false h, cond_false]
  | succ k ih =>
    intro i n hi hn
    obtain ⟨n, rfl⟩ := Nat.exists_eq_succ_of_ne_zero (show n ≠ 0 by omega)
    have h : ((i : Int) < (l.length : Int)) := by omega
    have h1 : i < l.length := by omega
    simp only [reticuleref04_Same_L0, decide_eq_true h, cond_true, ix_at l i h1, Option.bind_some, sense_dec, decide_true, Bool.not_true, cond_false, w64_succ i (by omega), ih (i + 1) n (by omega) (by omega)]
theorem sn_same_self (l : List Sense) (hs : l.length ≤ 200) : reticuleref04_Same (l, l) = some true := by
  have := sn_same_loop l hs l.length 0 Big (by omega) (big_lt (by omega))
  rw [Int.natCast_zero] at this
  simp only [reticuleref04_Same, decide_true, Bool.not_true, cond_false, this, jn_inl]
theorem addL_len (l : List Sense) (s : Sense) (hs : l.length ≤ 100) : (addL l s).length ≤ 200 := by
  unfold addL
  split
  · omega
  · split
    · simp
    · split
      · omega
      · simp; omega
end Go.Proofs.Ytgceolpeegfkkaa
