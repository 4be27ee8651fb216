/- Plain laws of chapter 1: bytes of a text, by the program. -/
import Derived.Test.YtibfmdehmdploaaRgA
import Derived.Test.YtibfmdehmdploaaXF
namespace Go.Proofs.Ytibfmdehmdploaa
open Go Go.Re
set_option linter.unusedVariables false
set_option linter.unusedSimpArgs false
/-- n bytes of a text, spaces behind it -/
def textL (s : List (BitVec 8)) (n : Nat) : List (BitVec 8) := (s ++ List.replicate n (32#8)).take n
theorem textL_length (s : List (BitVec 8)) (n : Nat) : (textL s n).length = n := by simp [textL]
theorem text_get (s : List (BitVec 8)) (n i : Nat) (h : s.length ≤ i) (hi : i < n) : (s ++ List.replicate n (32#8))[i]? = some (32#8) := by
  rw [List.getElem?_append_right h, List.getElem?_replicate, if_pos (by omega)]
theorem num_text_loop (s : List (BitVec 8)) (w : Nat) (hw : w ≤ 1024) : ∀ k i n, i + k = w → k < n → min s.length w ≤ i →
    number_Text_L0 n ((w : Int), (s ++ List.replicate w (32#8)).take i ++ List.replicate k (0#8), (i : Int)) = some (Sum.inl (textL s w)) := by
  intro k
  induction k with
  | zero =>
    intro i n hi hn hm
    obtain ⟨n, rfl⟩ := Nat.exists_eq_succ_of_ne_zero (show n ≠ 0 by omega)
    have h : ¬ ((i : Int) < (w : Int)) := by omega
    simp only [number_Text_L0, decide_eq_false h, cond_false]
    rw [show i = w by omega]; simp [textL]
  | succ k ih =>
    intro i n hi hn hm
    obtain ⟨n, rfl⟩ := Nat.exists_eq_succ_of_ne_zero (show n ≠ 0 by omega)
    have h : ((i : Int) < (w : Int)) := by omega
    have hl : ((s ++ List.replicate w (32#8)).take i).length = i := by simp; omega
    have hin : inLen (i : Int) ((s ++ List.replicate w (32#8)).take i ++ List.replicate (k + 1) (0#8)).length = true := inLen_nat (by rw [List.length_append, hl]; simp)
    have e2 : ((s ++ List.replicate w (32#8)).take i ++ List.replicate (k + 1) (0#8)).set i (32#8) = (s ++ List.replicate w (32#8)).take (i + 1) ++ List.replicate k (0#8) := by
      have := set_at ((s ++ List.replicate w (32#8)).take i) (List.replicate k (0#8)) (32#8) 0#8
      rw [hl] at this
      rw [List.replicate_succ, this, List.take_add_one, text_get s w i (by omega) (by omega)]; simp
    rw [← ih (i + 1) n (by omega) (by omega) (by omega), ← e2, ← w64_succ i (by omega)]
    simp only [number_Text_L0, decide_eq_true h, cond_true, chk_true hin, Option.bind_some, Int.toNat_natCast]
theorem num_text (s : List (BitVec 8)) (w : Int) : number_Text (s, w) = some (if 0 ≤ w ∧ w ≤ 1024 then textL s w.toNat else []) := by
  simp only [number_Text]
  by_cases h1 : w < 0
  · rw [if_neg (by omega)]; simp [h1]
  · by_cases h2 : 1024 < w
    · rw [if_neg (by omega)]; simp [h1, h2]
    · rw [if_pos (by omega)]
      have h := num_text_loop s w.toNat (by omega) (w.toNat - min s.length w.toNat) (min s.length w.toNat) Big (by omega) (big_lt (by omega)) (Nat.le_refl _)
      have c : (decide (0 ≤ w) && decide (w ≤ w) && decide (w ≤ (lim : Int))) = true := by
        have hc : w ≤ (lim : Int) := by rw [lim_int]; omega
        simp only [Bool.and_eq_true, decide_eq_true_eq]
        exact ⟨⟨by omega, by omega⟩, hc⟩
      have e : over (List.replicate w.toNat (0#8)) s = (s ++ List.replicate w.toNat (32#8)).take (min s.length w.toNat) ++ List.replicate (w.toNat - min s.length w.toNat) (0#8) := by
        unfold over
        rw [List.length_replicate, List.take_append_of_le_length (by omega), List.drop_replicate]
        congr 1
        · by_cases hs : s.length ≤ w.toNat
          · rw [List.take_of_length_le hs, List.take_of_length_le (by omega)]
          · rw [Nat.min_eq_right (by omega)]
        · congr 1; omega
      simp only [h1, h2, decide_false, cond_false, Option.bind_some, chk_true c, List.length_replicate, e]
      rw [← e] at h ⊢
      rw [show ((w.toNat : Nat) : Int) = w by omega] at h
      rw [h]; rfl
end Go.Proofs.Ytibfmdehmdploaa
