/- Plain laws of chapter 1: bytes of a text, by the reference. -/
import Derived.Test.YtibfmdehmdploaaNumT
namespace Go.Proofs.Ytibfmdehmdploaa
open Go Go.Re
set_option linter.unusedVariables false
set_option linter.unusedSimpArgs false
theorem ref_text_loop (s : List (BitVec 8)) (w : Nat) (hw : w ≤ 1024) : ∀ k i n, i + k = w → k < n →
    reticuleref01_Text_L0 n (s, (w : Int), (s ++ List.replicate w (32#8)).take i, (i : Int)) = some (Sum.inl (textL s w)) := by
  intro k
  induction k with
  | zero =>
    intro i n hi hn
    obtain ⟨n, rfl⟩ := Nat.exists_eq_succ_of_ne_zero (show n ≠ 0 by omega)
    have h : ¬ ((i : Int) < (w : Int)) := by omega
    simp only [reticuleref01_Text_L0, decide_eq_false h, cond_false]
    rw [show i = w by omega]; simp [textL]
  | succ k ih =>
    intro i n hi hn
    obtain ⟨n, rfl⟩ := Nat.exists_eq_succ_of_ne_zero (show n ≠ 0 by omega)
    have h : ((i : Int) < (w : Int)) := by omega
    have hl : ((s ++ List.replicate w (32#8)).take i).length = i := by simp; omega
    have hc : ∀ c : BitVec 8, ((s ++ List.replicate w (32#8)).take i).length + ([c] : List (BitVec 8)).length ≤ lim := by
      intro c; rw [hl]; show i + 1 ≤ 2147483648; omega
    rw [← ih (i + 1) n (by omega) (by omega), ← w64_succ i (by omega)]
    by_cases hs : i < s.length
    · have hs' : (i : Int) < (s.length : Int) := by omega
      have e : (s ++ List.replicate w (32#8)).take (i + 1) = (s ++ List.replicate w (32#8)).take i ++ [s[i]] := by
        rw [List.take_add_one, List.getElem?_append_left hs, List.getElem?_eq_getElem hs]; rfl
      simp only [reticuleref01_Text_L0, decide_eq_true h, decide_eq_true hs', cond_true, ix_at s i hs, Option.bind_some, chk_dec (hc _), jn_inl, e]
    · have hs' : ¬ (i : Int) < (s.length : Int) := by omega
      have e : (s ++ List.replicate w (32#8)).take (i + 1) = (s ++ List.replicate w (32#8)).take i ++ [32#8] := by
        rw [List.take_add_one, text_get s w i (by omega) (by omega)]; rfl
      simp only [reticuleref01_Text_L0, decide_eq_true h, decide_eq_false hs', cond_true, cond_false, Option.bind_some, chk_dec (hc _), jn_inl, e]
theorem ref_text (s : List (BitVec 8)) (w : Int) : reticuleref01_Text (s, w) = some (if 0 ≤ w ∧ w ≤ 1024 then textL s w.toNat else []) := by
  simp only [reticuleref01_Text]
  by_cases h1 : w < 0
  · rw [if_neg (by omega)]; simp [h1]
  · by_cases h2 : 1024 < w
    · rw [if_neg (by omega)]; simp [h1, h2]
    · rw [if_pos (by omega)]
      have h := ref_text_loop s w.toNat (by omega) w.toNat 0 Big (by omega) (big_lt (by omega))
      rw [show ((w.toNat : Nat) : Int) = w by omega, Int.natCast_zero, List.take_zero] at h
      simp only [h1, h2, decide_false, cond_false, Option.bind_some, h, jn_inl]
end Go.Proofs.Ytibfmdehmdploaa
