/- The plain laws of chapter 9: each answer is true. -/
import Derived.Test.YtgonclhpilkpmaaNumR
import Derived.Test.YtgonclhpilkpmaaNumG
import Derived.Test.YtgonclhpilkpmaaRefBB
import Derived.Test.YtgonclhpilkpmaaRefCB
import Derived.Test.YtgonclhpilkpmaaCutI
import Derived.KernelRfl
namespace Go.Proofs.Ytgonclhpilkpmaa
open Go Go.Re
set_option linter.unusedVariables false
set_option linter.unusedSimpArgs false
theorem alive_ok : reticulelaw09_alive () = some true := by kernel_rfl
/-- what the last block is, in so many bytes, and how long one is -/
def toldL (b w : Nat) (x : Int) : List (BitVec 8) := (leN w (BitVec.ofInt 64 x - 1#64)).reverse ++ [0#8, 0#8, 0#8, 64#8]
theorem told_eq (x w : Int) (h1 : 1 ≤ w) (h8 : w ≤ 8) : capacity_told (x, w) = some (toldL 0 w.toNat x) := by
  have h4 : number_PutBig (64#64, 4) = some [0#8, 0#8, 0#8, 64#8] := by kernel_rfl
  simp only [capacity_told, putBig_eq _ w, if_pos (show 1 ≤ w ∧ w ≤ 8 from ⟨h1, h8⟩), h4, Option.bind_some]
  rw [concat_eq _ (by simp [leN_length]; omega) (by simp)]
  simp [toldL]
theorem ten_eq (x : Int) : capacity_Ten x = some (toldL 0 4 x) := by
  simp only [capacity_Ten, told_eq x 4 (by omega) (by omega), Option.bind_some]; rfl
theorem ref_ten (x : Int) : reticuleref09_Ten x = some (toldL 0 4 x) := by
  have c : (leN (4 : Int).toNat (BitVec.ofInt 64 x - 1#64)).reverse.length + ([0#8, 0#8, 0#8, 64#8] : List (BitVec 8)).length ≤ lim := by
    rw [List.length_reverse, leN_length]; show _ ≤ 2147483648; simp
  simp only [reticuleref09_Ten, ref_putBig, if_pos (show (1 : Int) ≤ 4 ∧ (4 : Int) ≤ 8 by omega), Option.bind_some, chk_dec c]; rfl
theorem sixteen_eq (x n : Int) : capacity_Sixteen (x, n) = some (cutN (toldL 0 8 x ++ List.replicate 20 (0#8)) n) := by
  have c : (decide (0 ≤ (20 : Int)) && decide ((20 : Int) ≤ 20) && decide ((20 : Int) ≤ (lim : Int))) = true := by
    rw [lim_int]; rfl
  have c' : chk (decide ((20 : Int) ≤ ((lim : Nat) : Int))) = some () := rfl
  simp only [capacity_Sixteen, told_eq x 8 (by omega) (by omega), Option.bind_some, chk_true c]
  try simp only [c', Option.bind_some]
  rw [concat_eq _ (by simp [toldL, leN_length]) (by simp)]
  simp only [Option.bind_some, inq_cut]
  simp
  rfl
theorem ref_sixteen (x n : Int) : reticuleref09_Sixteen (x, n) = some (cutN (toldL 0 8 x ++ List.replicate 20 (0#8)) n) := by
  have c : (leN (8 : Int).toNat (BitVec.ofInt 64 x - 1#64)).reverse.length + ([0#8, 0#8, 0#8, 64#8] : List (BitVec 8)).length ≤ lim := by
    rw [List.length_reverse, leN_length]; show _ ≤ 2147483648; simp
  have c2 : ((decide (0 ≤ (20 : Int)) && decide ((20 : Int) ≤ (lim : Int))) && decide (((leN (8 : Int).toNat (BitVec.ofInt 64 x - 1#64)).reverse ++ [0#8, 0#8, 0#8, 64#8]).length + (List.replicate (20 : Int).toNat (0#8)).length ≤ lim)) = true := by
    simp only [Bool.and_eq_true, decide_eq_true_eq]
    refine ⟨⟨by omega, by rw [lim_int]; omega⟩, ?_⟩
    rw [List.length_append, List.length_reverse, leN_length, List.length_replicate]; show _ ≤ 2147483648; simp
  simp only [reticuleref09_Sixteen, ref_putBig, if_pos (show (1 : Int) ≤ 8 ∧ (8 : Int) ≤ 8 by omega), Option.bind_some, chk_dec c, chk_true c2]
  rw [ref_cut _ _ (by simp [leN_length])]
  rfl
/-- so many units -/
def manyOf (l : Int) : Nat := (min l 4).toNat
/-- the units that there are -/
def lunsL (m : Nat) : List (BitVec 8) :=
  [0#8, 0#8, 0#8, BitVec.ofNat 8 (8 * m), 0#8, 0#8, 0#8, 0#8] ++ ((List.range m).map fun i => [0#8, BitVec.ofNat 8 i, 0#8, 0#8, 0#8, 0#8, 0#8, 0#8]).flatten
theorem many_bif (l : Int) : (bif decide (0 < (bif decide (4 < l) then 4 else l)) then (bif decide (4 < l) then 4 else l) else 0) = (manyOf l : Int) := by
  unfold manyOf
  by_cases h1 : 4 < l
  · simp [h1]; omega
  · by_cases h2 : 0 < l
    · simp [h1, h2]; omega
    · simp [h1, h2]; omega
theorem many_le (l : Int) : manyOf l ≤ 4 := by unfold manyOf; omega
theorem luns_eq (l n : Int) : capacity_Luns (l, n) = some (cutN (lunsL (manyOf l)) n) := by
  unfold capacity_Luns
  simp only [many_bif]
  have h := many_le l
  generalize manyOf l = m at h ⊢
  have key : ∀ (c : Bool) (r : List (BitVec 8)) (z : Nat), c = true → number_PutBig (BitVec.ofInt 64 (w64 ((8 : Int) * (m : Int))), 4) = some r →
      capacity_Luns_L0 Big (n, over (List.replicate z (0#8)) r, (m : Int), 0) = some (Sum.inl (n, lunsL m)) →
      ((chk c).bind fun _ => (number_PutBig (BitVec.ofInt 64 (w64 ((8 : Int) * (m : Int))), 4)).bind fun r1 =>
        jn (A := (Int × (List (BitVec 8)))) (R := (List (BitVec 8))) (capacity_Luns_L0 Big (n, over (List.replicate z (0#8)) r1, (m : Int), 0)) fun q2 =>
        (inquiry_Cut (q2.2, q2.1)).bind fun r3 => some r3) = some (cutN (lunsL m) n) := by
    intro c r z h1 h2 h3
    simp only [h1, h2, h3, chk_true rfl, Option.bind_some, jn_inl, inq_cut]
  refine key _ (leN 4 (BitVec.ofInt 64 (w64 ((8 : Int) * (m : Int))))).reverse _ ?_ ?_ ?_
  all_goals rcases (show m = 0 ∨ m = 1 ∨ m = 2 ∨ m = 3 ∨ m = 4 by omega) with rfl | rfl | rfl | rfl | rfl <;> (show _ = _; kernel_rfl)
theorem ref_luns (l n : Int) : reticuleref09_Luns (l, n) = some (cutN (lunsL (manyOf l)) n) := by
  have h := many_le l
  have e : reticuleref09_Luns (l, n) = jn (A := (Int × (List (BitVec 8)))) (R := (List (BitVec 8))) (reticuleref09_Luns_L0 Big ((manyOf l : Int), n, ([0#8, 0#8, 0#8, BitVec.ofInt 8 (w64 ((manyOf l : Int) * 8)), 0#8, 0#8, 0#8, 0#8] : List (BitVec 8)), 0)) fun q3 =>
      (reticuleref07_Cut (q3.2, q3.1)).bind fun r4 => some r4 := by
    unfold reticuleref09_Luns manyOf
    by_cases h1 : 4 < l
    · simp only [h1, decide_true, cond_true, jn_inl]
      rw [show min l 4 = 4 by omega]; rfl
    · by_cases h2 : l < 0
      · simp only [h1, h2, decide_true, decide_false, cond_true, cond_false, jn_inl]
        rw [show (min l 4).toNat = 0 by omega]; rfl
      · simp only [h1, h2, decide_false, cond_false, jn_inl]
        rw [show (((min l 4).toNat : Nat) : Int) = l by omega]
  rw [e]
  have hl : (lunsL (manyOf l)).length ≤ 2147483648 := by
    generalize manyOf l = m at h ⊢
    match m, h with
    | 0, _ => decide
    | 1, _ => decide
    | 2, _ => decide
    | 3, _ => decide
    | 4, _ => decide
  rw [← ref_cut _ _ hl]
  clear hl e
  generalize manyOf l = m at h ⊢
  have tail : ∀ (x : Option (List (BitVec 8))), (x.bind fun r4 => some r4) = x := fun x => by cases x <;> rfl
  have key : ∀ q, reticuleref09_Luns_L0 Big ((m : Int), n, ([0#8, 0#8, 0#8, BitVec.ofInt 8 (w64 ((m : Int) * 8)), 0#8, 0#8, 0#8, 0#8] : List (BitVec 8)), 0) = some (Sum.inl (n, q)) → q = lunsL m →
      (jn (A := (Int × (List (BitVec 8)))) (R := (List (BitVec 8))) (reticuleref09_Luns_L0 Big ((m : Int), n, ([0#8, 0#8, 0#8, BitVec.ofInt 8 (w64 ((m : Int) * 8)), 0#8, 0#8, 0#8, 0#8] : List (BitVec 8)), 0)) fun q3 =>
      (reticuleref07_Cut (q3.2, q3.1)).bind fun r4 => some r4) = reticuleref07_Cut (lunsL m, n) := by
    intro q h1 h2
    rw [h1, jn_inl, tail, h2]
  refine key (lunsL m) ?_ rfl
  rcases (show m = 0 ∨ m = 1 ∨ m = 2 ∨ m = 3 ∨ m = 4 by omega) with rfl | rfl | rfl | rfl | rfl <;> (show _ = _; kernel_rfl)
theorem told_len (w : Nat) (x : Int) : (toldL 0 w x).length = w + 4 := by simp [toldL, leN_length]
theorem cut_len (x : List (BitVec 8)) (n : Int) : (cutN x n).length = min n.toNat x.length := by simp [cutN]
theorem luns_len (m : Nat) : (lunsL m).length = 8 + 8 * m := by
  unfold lunsL
  rw [List.length_append]
  congr 1
  induction m with
  | zero => rfl
  | succ m ih => rw [List.range_succ, List.map_append, List.flatten_append, List.length_append, ih]; simp; omega
theorem CapacityTells_pure (x) : reticulelaw09_CapacityTells x = some true := by
  obtain ⟨b, l, n⟩ := x
  have hm := many_le l
  have c1 : (toldL 0 4 b).length ≤ lim := by rw [told_len]; show _ ≤ 2147483648; omega
  have c2 : (cutN (toldL 0 8 b ++ List.replicate 20 (0#8)) n).length ≤ lim := by rw [cut_len, List.length_append, told_len, List.length_replicate]; show _ ≤ 2147483648; omega
  have c3 : (cutN (lunsL (manyOf l)) n).length ≤ lim := by rw [cut_len, luns_len]; show _ ≤ 2147483648; omega
  simp only [reticulelaw09_CapacityTells, alive_ok, Option.bind_some, Bool.not_true, cond_false, ten_eq, ref_ten, sixteen_eq, ref_sixteen, luns_eq, ref_luns, chk_dec c1, chk_dec c2, chk_dec c3, decide_true, cond_true]
theorem take_take_self {α : Type} (x : List α) (n : Int) : x.take n.toNat = x.take (min n.toNat x.length) := by
  rcases Nat.le_total n.toNat x.length with h | h
  · rw [Nat.min_eq_left h]
  · rw [Nat.min_eq_right h, List.take_length, List.take_of_length_le h]
theorem max_bif (n : Int) : (bif decide (n < 0) then 0 else n) = (n.toNat : Int) := by
  by_cases h : n < 0
  · simp [h]; omega
  · simp [h]; omega
theorem CapacityCuts_pure (x) : reticulelaw09_CapacityCuts x = some true := by
  obtain ⟨b, l, n⟩ := x
  have hm := many_le l
  obtain ⟨A, hA, hAl⟩ : ∃ A, toldL 0 8 b ++ List.replicate 20 (0#8) = A ∧ A.length = 32 := ⟨_, rfl, by rw [List.length_append, told_len, List.length_replicate]⟩
  obtain ⟨L, hL, hLl⟩ : ∃ L, lunsL (manyOf l) = L ∧ L.length ≤ 40 := ⟨_, rfl, by rw [luns_len]; omega⟩
  have a1 : cutN A 1000 = A := List.take_of_length_le (by rw [hAl]; decide)
  have a2 : cutN L 1000 = L := List.take_of_length_le (by show _ ≤ 1000; omega)
  have e1 : (cutN A n).length = min n.toNat 32 := by rw [cut_len, hAl]
  have e2 : (cutN L n).length = min n.toNat L.length := cut_len L n
  have f1 : ¬ ((32 : Int) < ((cutN A n).length : Int)) := by rw [e1]; omega
  have f2 : ¬ ((L.length : Int) < ((cutN L n).length : Int)) := by rw [e2]; omega
  have f3 : (A.length : Int) = 32 := by omega
  have c1 : (cutN A n).length ≤ lim := by rw [e1]; show _ ≤ 2147483648; omega
  have c2 : (decide (0 ≤ ((cutN A n).length : Int)) && decide (((cutN A n).length : Int) ≤ 32)) = true := by
    simp only [Bool.and_eq_true, decide_eq_true_eq]; omega
  have c3 : (cutN L n).length ≤ lim := by rw [e2]; show _ ≤ 2147483648; omega
  have c4 : (decide (0 ≤ ((cutN L n).length : Int)) && decide (((cutN L n).length : Int) ≤ (L.length : Int))) = true := by
    simp only [Bool.and_eq_true, decide_eq_true_eq]; omega
  have t1 : A.take ((cutN A n).length : Int).toNat = cutN A n := by rw [Int.toNat_natCast, e1]; unfold cutN; rw [take_take_self A n, hAl]
  have t2 : L.take ((cutN L n).length : Int).toNat = cutN L n := by rw [Int.toNat_natCast, e2]; unfold cutN; rw [take_take_self L n]
  have g1 : ((cutN A n).length : Int) = (bif decide (32 < (n.toNat : Int)) then 32 else (n.toNat : Int)) := by
    rw [e1]
    by_cases h : (32 : Int) < (n.toNat : Int)
    · simp only [decide_eq_true h, cond_true]; omega
    · simp only [decide_eq_false h, cond_false]; omega
  have g2 : ((cutN L n).length : Int) = (bif decide ((L.length : Int) < (n.toNat : Int)) then (L.length : Int) else (n.toNat : Int)) := by
    rw [e2]
    by_cases h : (L.length : Int) < (n.toNat : Int)
    · simp only [decide_eq_true h, cond_true]; omega
    · simp only [decide_eq_false h, cond_false]; omega
  simp only [reticulelaw09_CapacityCuts, alive_ok, Option.bind_some, Bool.not_true, cond_false, sixteen_eq, luns_eq, hA, hL, a1, a2, decide_eq_false f1, decide_eq_false f2, f3, decide_true, chk_dec c1, chk_dec c3, chk_true c2, chk_true c4, t1, t2, cond_true, max_bif]
  simp only [decide_eq_true g1, decide_eq_true g2, cond_true, Option.bind_some]
theorem nv_zeros (k : Nat) : nv (List.replicate k (0#8)) = 0 := by
  induction k with
  | zero => rfl
  | succ k ih => rw [List.replicate_succ]; simp [nv, ih]
theorem take_rev (w : Nat) (x : BitVec 64) (r : List (BitVec 8)) : (((leN w x).reverse ++ r).take w).reverse = leN w x := by
  rw [List.take_append_of_le_length (by rw [List.length_reverse, leN_length]; exact Nat.le_refl _), List.take_of_length_le (by rw [List.length_reverse, leN_length]; exact Nat.le_refl _), List.reverse_reverse]
theorem CapacityBack_pure (x) : reticulelaw09_CapacityBack x = some true := by
  obtain ⟨b, l⟩ := x
  obtain ⟨k, hk, hk5⟩ : ∃ k : Nat, (l % (5#8)).toNat = k ∧ k < 5 := ⟨_, rfl, by rw [BitVec.toNat_umod]; exact Nat.mod_lt _ (by decide)⟩
  have hb := b.isLt
  have e1 : w64 ((1 : Int) + (b.toNat : Int)) = ((1 + b.toNat : Nat) : Int) := by rw [w64_in] <;> omega
  have e2 : w64 (((1 + b.toNat : Nat) : Int) - 1) = (b.toNat : Int) := by rw [w64_in] <;> omega
  have e3 : BitVec.ofInt 64 ((1 + b.toNat : Nat) : Int) - 1#64 = BitVec.ofNat 64 b.toNat := by
    apply BitVec.eq_of_toNat_eq
    rw [BitVec.toNat_sub, BitVec.toNat_ofInt, BitVec.toNat_ofNat]
    show (18446744073709551616 - 1 + _) % 18446744073709551616 = _ % 18446744073709551616
    omega
  have bn : (BitVec.ofNat 64 b.toNat).toNat = b.toNat := by rw [BitVec.toNat_ofNat]; exact Nat.mod_eq_of_lt (by omega)
  have r1 : reticuleref01_Big (toldL 0 4 ((1 + b.toNat : Nat) : Int), 0, 4) = some (BitVec.ofNat 64 b.toNat, true) := by
    rw [ref_big _ _ _ (by rw [told_len]; omega), if_pos (by rw [told_len]; omega)]
    simp only [Int.toNat_zero, List.drop_zero, toldL, e3]
    rw [show (4 : Int).toNat = 4 from rfl, take_rev, nv_leN, bn]
    rw [Nat.mod_eq_of_lt (show b.toNat < 256 ^ 4 by rw [show (256 : Nat) ^ 4 = 4294967296 from rfl]; omega)]
  have r2 : reticuleref01_Big (cutN (toldL 0 8 ((1 + b.toNat : Nat) : Int) ++ List.replicate 20 (0#8)) 32, 0, 8) = some (BitVec.ofNat 64 b.toNat, true) := by
    have : cutN (toldL 0 8 ((1 + b.toNat : Nat) : Int) ++ List.replicate 20 (0#8)) 32 = toldL 0 8 ((1 + b.toNat : Nat) : Int) ++ List.replicate 20 (0#8) :=
      List.take_of_length_le (by rw [List.length_append, told_len, List.length_replicate]; decide)
    rw [this, ref_big _ _ _ (by rw [List.length_append, told_len, List.length_replicate]; omega), if_pos (by rw [List.length_append, told_len, List.length_replicate]; omega)]
    simp only [Int.toNat_zero, List.drop_zero, toldL, e3, List.append_assoc]
    rw [show (8 : Int).toNat = 8 from rfl, take_rev, nv_leN, bn]
    rw [Nat.mod_eq_of_lt (show b.toNat < 256 ^ 8 by rw [show (256 : Nat) ^ 8 = 18446744073709551616 from rfl]; omega)]
  have hmany : manyOf (k : Int) = k := by unfold manyOf; omega
  have e4 : w64 (((BitVec.ofNat 64 b.toNat).toNat : Nat) : Int) = (b.toNat : Int) := by rw [bn, w64_in] <;> omega
  have r3 : capacity_Luns ((k : Int), 100) = some (lunsL k) := by
    rw [luns_eq, hmany]; congr 1; exact List.take_of_length_le (by rw [luns_len]; show _ ≤ 100; omega)
  simp only [reticulelaw09_CapacityBack, alive_ok, Option.bind_some, Bool.not_true, cond_false, hk, e1, e2, ten_eq, r1, sixteen_eq, r2, r3, e4]
  clear r1 r2 r3 e1 e2 e3 e4 bn hb hk hmany
  simp only [decide_true, Bool.not_true]
  rcases (show k = 0 ∨ k = 1 ∨ k = 2 ∨ k = 3 ∨ k = 4 by omega) with rfl | rfl | rfl | rfl | rfl <;> (show _ = _; kernel_rfl)
end Go.Proofs.Ytgonclhpilkpmaa
