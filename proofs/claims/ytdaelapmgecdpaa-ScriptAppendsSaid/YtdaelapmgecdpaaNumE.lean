/- Plain laws of chapter 1: how numbers are read, the highest byte first. -/
import Derived.Test.YtdaelapmgecdpaaNumK
namespace Go.Proofs.Ytdaelapmgecdpaa
open Go Go.Re
set_option linter.unusedVariables false
set_option linter.unusedSimpArgs false
theorem num_big_loop (p : List (BitVec 8)) (ok : Bool) (hp : p.length ≤ 8) : ∀ k i n x, i + k = p.length → k < n → x.toNat = nv (p.take i).reverse →
    number_Big_L0 n (x, ok, p, (p.length : Int), (i : Int)) = some (Sum.inl (BitVec.ofNat 64 (nv p.reverse), ok)) := by
  intro k
  induction k with
  | zero =>
    intro i n x hi hn hx
    obtain ⟨n, rfl⟩ := Nat.exists_eq_succ_of_ne_zero (show n ≠ 0 by omega)
    have h : ¬ ((i : Int) < (p.length : Int)) := by omega
    simp only [number_Big_L0, decide_eq_false h, cond_false]
    rw [List.take_of_length_le (by omega)] at hx
    rw [eq_ofNat hx]
  | succ k ih =>
    intro i n x hi hn hx
    obtain ⟨n, rfl⟩ := Nat.exists_eq_succ_of_ne_zero (show n ≠ 0 by omega)
    have h : ((i : Int) < (p.length : Int)) := by omega
    have hi' : i < p.length := by omega
    have hx' : ((x <<< 8) ||| p[i].setWidth 64).toNat = nv (p.take (i + 1)).reverse := by
      rw [shl8_or x p[i] _ hx (lt_56 (by simp; omega)), nv_take_rev p i hi']
    rw [← ih (i + 1) n _ (by omega) (by omega) hx', ← w64_succ i (by omega)]
    simp only [number_Big_L0, decide_eq_true h, cond_true, ix_at p i hi', Option.bind_some, show (((8#64).toNat : Int)).toNat = 8 from rfl]
theorem num_big (b : List (BitVec 8)) (a w : Int) (hb : b.length ≤ 140737488355328) :
    number_Big (b, a, w) = some (if 1 ≤ w ∧ w ≤ 8 ∧ 0 ≤ a ∧ a ≤ (b.length : Int) - w then (BitVec.ofNat 64 (nv ((b.drop a.toNat).take w.toNat).reverse), true) else (0#64, false)) := by
  simp only [number_Big, num_cut b a w hb, Option.bind_some]
  split
  · rename_i h
    have hl := num_part_len b a w h
    have := num_big_loop ((b.drop a.toNat).take w.toNat) true (by omega) _ 0 Big 0#64 (Nat.zero_add _) (big_lt (by omega)) rfl
    simp only [Int.natCast_zero] at this
    simp only [this, jn_inl]
  · rfl
end Go.Proofs.Ytdaelapmgecdpaa
