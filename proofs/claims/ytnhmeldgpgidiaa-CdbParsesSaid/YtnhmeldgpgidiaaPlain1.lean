/- Plain laws. -/
import Derived.Test.YtnhmeldgpgidiaaLib4
import Derived.Test.YtnhmeldgpgidiaaXF
import Derived.KernelRfl
/- Plain laws of chapter 1: how numbers are read, the lowest byte first. -/
namespace Go.Proofs.Ytnhmeldgpgidiaa
open Go Go.Re
set_option linter.unusedVariables false
set_option linter.unusedSimpArgs false
theorem num_cut (b : List (BitVec 8)) (a w : Int) (hb : b.length ≤ 140737488355328) :
    number_cut (b, a, w) = some (if 1 ≤ w ∧ w ≤ 8 ∧ 0 ≤ a ∧ a ≤ (b.length : Int) - w then ((b.drop a.toNat).take w.toNat, true) else ([], false)) := by
  simp only [number_cut]
  by_cases h1 : w < 1
  · rw [if_neg (by omega)]; simp [h1]
  by_cases h2 : 8 < w
  · rw [if_neg (by omega)]; simp [h1, h2]
  by_cases h3 : a < 0
  · rw [if_neg (by omega)]; simp [h1, h2, h3]
  have e1 : w64 ((b.length : Int) - w) = (b.length : Int) - w := w64_in (by omega) (by omega)
  by_cases h4 : (b.length : Int) - w < a
  · rw [if_neg (by omega)]; simp [h1, h2, h3, e1, h4]
  have e2 : w64 (a + w) = a + w := w64_in (by omega) (by omega)
  rw [if_pos (by omega)]
  have c : (decide (0 ≤ a) && decide (a ≤ a + w) && decide (a + w ≤ (b.length : Int))) = true := by
    simp only [Bool.and_eq_true, decide_eq_true_eq]; omega
  simp only [h1, h2, h3, h4, e1, e2, decide_false, cond_false, Option.bind_some, chk_true c]
  rw [slc, show (a + w).toNat = a.toNat + w.toNat by omega, List.drop_take, show a.toNat + w.toNat - a.toNat = w.toNat by omega]
theorem num_part_len (b : List (BitVec 8)) (a w : Int) (h : 1 ≤ w ∧ w ≤ 8 ∧ 0 ≤ a ∧ a ≤ (b.length : Int) - w) : ((b.drop a.toNat).take w.toNat).length = w.toNat := by
  rw [List.length_take, List.length_drop]; omega
end Go.Proofs.Ytnhmeldgpgidiaa
/- Plain laws of chapter 1: how numbers are read, the highest byte first. -/
namespace Go.Proofs.Ytnhmeldgpgidiaa
open Go Go.Re
set_option linter.unusedVariables false
set_option linter.unusedSimpArgs false
theorem num_big_loop (p : List (BitVec 8)) (ok : Bool) (hp : p.length ≤ 8) : ∀ k i n x, i + k = p.length → k < n → x.toNat = nv (p.take i).reverse →
    number_Big_L0 n (x, ok, p, (p.length : Int), (i : Int)) = some (Sum.inl (BitVec.ofNat 64 (nv p.reverse), ok)) := by
  intro k
  induction k with
  | zero =>
    intro i n x hi hn hx
    obtain ⟨n, rfl⟩ := Nat.exists_eq_succ_of_ne_zero (show n ≠ 0 by omega)
    have h : ¬ ((i : Int) < (p.length : Int)) := by omega
    simp only [number_Big_L0, decide_eq_false h, cond_false]
    rw [List.take_of_length_le (by omega)] at hx
    rw [eq_ofNat hx]
  | succ k ih =>
    intro i n x hi hn hx
    obtain ⟨n, rfl⟩ := Nat.exists_eq_succ_of_ne_zero (show n ≠ 0 by omega)
    have h : ((i : Int) < (p.length : Int)) := by omega
    have hi' : i < p.length := by omega
    have hx' : ((x <<< 8) ||| p[i].setWidth 64).toNat = nv (p.take (i + 1)).reverse := by
      rw [shl8_or x p[i] _ hx (lt_56 (by simp; omega)), nv_take_rev p i hi']
    rw [← ih (i + 1) n _ (by omega) (by omega) hx', ← w64_succ i (by omega)]
    simp only [number_Big_L0, decide_eq_true h, cond_true, ix_at p i hi', Option.bind_some, show (((8#64).toNat : Int)).toNat = 8 from rfl]
theorem num_big (b : List (BitVec 8)) (a w : Int) (hb : b.length ≤ 140737488355328) :
    number_Big (b, a, w) = some (if 1 ≤ w ∧ w ≤ 8 ∧ 0 ≤ a ∧ a ≤ (b.length : Int) - w then (BitVec.ofNat 64 (nv ((b.drop a.toNat).take w.toNat).reverse), true) else (0#64, false)) := by
  simp only [number_Big, num_cut b a w hb, Option.bind_some]
  split
  · rename_i h
    have hl := num_part_len b a w h
    have := num_big_loop ((b.drop a.toNat).take w.toNat) true (by omega) _ 0 Big 0#64 (Nat.zero_add _) (big_lt (by omega)) rfl
    simp only [Int.natCast_zero] at this
    simp only [this, jn_inl]
  · rfl
end Go.Proofs.Ytnhmeldgpgidiaa
/- Plain laws of chapter 1: bits of numbers, as the program tells them. -/
namespace Go.Proofs.Ytnhmeldgpgidiaa
open Go Go.Re
set_option linter.unusedVariables false
set_option linter.unusedSimpArgs false
/-- bits that there are -/
def bitsIn (f n : Int) : Prop := 0 ≤ f ∧ 1 ≤ n ∧ n ≤ 64 ∧ f ≤ 64 - n
instance (f n : Int) : Decidable (bitsIn f n) := inferInstanceAs (Decidable (_ ∧ _))
/-- n bits from f on -/
def maskBV (f n : Nat) : BitVec 64 := (18446744073709551615#64 >>> (64 - n)) <<< f
theorem mask_bit (f n k : Nat) (hf : f + n ≤ 64) (hn : 1 ≤ n) : (maskBV f n).getLsbD k = (decide (f ≤ k) && decide (k < f + n)) := by
  unfold maskBV
  rw [show 18446744073709551615#64 = BitVec.allOnes 64 from rfl, BitVec.getLsbD_shiftLeft, BitVec.getLsbD_ushiftRight, BitVec.getLsbD_allOnes]
  by_cases h1 : f ≤ k <;> by_cases h2 : k < f + n <;> by_cases h3 : k < 64 <;> simp [h1, h2, h3] <;> omega
theorem num_mask (f n : Int) : number_mask (f, n) = some (if bitsIn f n then maskBV f.toNat n.toNat else 0#64) := by
  simp only [number_mask]
  by_cases h1 : f < 0
  · rw [if_neg (by unfold bitsIn; omega)]; simp [h1]
  by_cases h2 : n < 1
  · rw [if_neg (by unfold bitsIn; omega)]; simp [h1, h2]
  by_cases h3 : 64 < n
  · rw [if_neg (by unfold bitsIn; omega)]; simp [h1, h2, h3]
  have e : w64 (64 - n) = 64 - n := w64_in (by omega) (by omega)
  by_cases h4 : 64 - n < f
  · rw [if_neg (by unfold bitsIn; omega)]; simp [h1, h2, h3, e, h4]
  rw [if_pos (by unfold bitsIn; omega)]
  have e1 : (0 : Int) ≤ 64 - n := by omega
  have e2 : (0 : Int) ≤ f := by omega
  simp only [h1, h2, h3, e, h4, decide_false, cond_false, Option.bind_some, decide_eq_true e1, decide_eq_true e2, cond_true, maskBV]
  rw [show (64 - n).toNat = 64 - n.toNat by omega]
theorem num_bits (x : BitVec 64) (f n : Int) : number_Bits (x, f, n) = some (if bitsIn f n then (x &&& maskBV f.toNat n.toNat) >>> f.toNat else 0#64) := by
  simp only [number_Bits, num_mask, Option.bind_some]
  by_cases h : bitsIn f n
  · have e2 : (0 : Int) ≤ f := h.1
    simp only [if_pos h]
    by_cases h0 : maskBV f.toNat n.toNat = 0#64
    · simp [h0]
    · simp [h0, e2]
  · simp [if_neg h]
theorem bits_bit (x : BitVec 64) (f n k : Nat) (hf : f + n ≤ 64) (hn : 1 ≤ n) : ((x &&& maskBV f n) >>> f).getLsbD k = (decide (k < n) && x.getLsbD (f + k)) := by
  rw [BitVec.getLsbD_ushiftRight, BitVec.getLsbD_and, mask_bit f n _ hf hn]
  by_cases h : k < n
  · simp [h]
  · simp [h]
end Go.Proofs.Ytnhmeldgpgidiaa
/- Plain laws of chapter 1: how numbers are put into bytes, the lowest first. -/
namespace Go.Proofs.Ytnhmeldgpgidiaa
open Go Go.Re
set_option linter.unusedVariables false
set_option linter.unusedSimpArgs false
theorem putLittle_loop (x : BitVec 64) (w : Nat) (hw : w ≤ 8) : ∀ k i n, i + k = w → k < n →
    number_PutLittle_L0 n (x >>> (8 * i), leN i x, (w : Int), (i : Int)) = some (Sum.inl (leN w x)) := by
  intro k
  induction k with
  | zero =>
    intro i n hi hn
    obtain ⟨n, rfl⟩ := Nat.exists_eq_succ_of_ne_zero (show n ≠ 0 by omega)
    have h : ¬ ((i : Int) < (w : Int)) := by omega
    simp only [number_PutLittle_L0, decide_eq_false h, cond_false]
    rw [show i = w by omega]
  | succ k ih =>
    intro i n hi hn
    obtain ⟨n, rfl⟩ := Nat.exists_eq_succ_of_ne_zero (show n ≠ 0 by omega)
    have h : ((i : Int) < (w : Int)) := by omega
    have hl : (leN i x).length + ([(x >>> (8 * i)).setWidth 8] : List (BitVec 8)).length ≤ lim := by
      rw [leN_length]; show i + 1 ≤ 2147483648; omega
    have e : (x >>> (8 * i)) >>> (((8#64).toNat : Int)).toNat = x >>> (8 * (i + 1)) := by
      rw [show (((8#64).toNat : Int)).toNat = 8 from rfl, ← BitVec.shiftRight_add]; rfl
    rw [← ih (i + 1) n (by omega) (by omega), leN_succ, ← e, ← w64_succ i (by omega)]
    simp only [number_PutLittle_L0, decide_eq_true h, cond_true, chk_dec hl, Option.bind_some]
theorem putLittle_eq (x : BitVec 64) (w : Int) : number_PutLittle (x, w) = some (if 1 ≤ w ∧ w ≤ 8 then leN w.toNat x else []) := by
  simp only [number_PutLittle]
  by_cases h1 : w < 1
  · rw [if_neg (by omega)]; simp [h1]
  · by_cases h2 : 8 < w
    · rw [if_neg (by omega)]; simp [h1, h2]
    · rw [if_pos (by omega)]
      have h := putLittle_loop x w.toNat (by omega) w.toNat 0 Big (by omega) (big_lt (by omega))
      rw [show ((w.toNat : Nat) : Int) = w by omega, show x >>> (8 * 0) = x by simp] at h
      simp only [h1, h2, decide_false, cond_false, Option.bind_some, jn_inl]
      rw [show ((0 : Nat) : Int) = 0 from rfl] at h
      rw [show leN 0 x = [] from rfl] at h
      simp only [h, jn_inl]
end Go.Proofs.Ytnhmeldgpgidiaa
/- Plain laws of chapter 1: how numbers are put into bytes, the highest first. -/
namespace Go.Proofs.Ytnhmeldgpgidiaa
open Go Go.Re
set_option linter.unusedVariables false
set_option linter.unusedSimpArgs false
theorem reverse_loop (l : List (BitVec 8)) (hl : l.length ≤ 2147483648) : ∀ k i j n (m : List (BitVec 8)), (j - i : Int).toNat ≤ 2 * k → k < n → 0 ≤ i → i + j = (l.length : Int) - 1 → i ≤ j + 2 → m.length = l.length →
    (∀ p : Nat, p < l.length → m[p]? = if (p : Int) < i ∨ j < (p : Int) then l.reverse[p]? else l[p]?) →
    slices_Reverse_byte_L0 n (m, i, j) = some (Sum.inl l.reverse) := by
  intro k
  induction k with
  | zero =>
    intro i j n m hk hn h0 hij h2 hm hp
    obtain ⟨n, rfl⟩ := Nat.exists_eq_succ_of_ne_zero (show n ≠ 0 by omega)
    have h : ¬ (i < j) := by omega
    simp only [slices_Reverse_byte_L0, decide_eq_false h, cond_false]
    congr 2
    apply List.ext_getElem?
    intro p
    by_cases hp' : p < l.length
    · rw [hp p hp']
      split
      · rfl
      · rw [List.getElem?_reverse (by omega)]
        congr 1; omega
    · rw [List.getElem?_eq_none (by omega), List.getElem?_eq_none (by simp; omega)]
  | succ k ih =>
    intro i j n m hk hn h0 hij h2 hm hp
    obtain ⟨n, rfl⟩ := Nat.exists_eq_succ_of_ne_zero (show n ≠ 0 by omega)
    by_cases h : i < j
    · have hi : i.toNat < l.length := by omega
      have hj : j.toNat < l.length := by omega
      have e1 : m[j.toNat]? = some (l[j.toNat]'hj) := by
        rw [hp _ hj, if_neg (by omega), List.getElem?_eq_getElem hj]
      have e2 : m[i.toNat]? = some (l[i.toNat]'hi) := by
        rw [hp _ hi, if_neg (by omega), List.getElem?_eq_getElem hi]
      have c1 : inLen j m.length = true := inLen_ok (by omega) (by omega)
      have c2 : inLen i m.length = true := inLen_ok (by omega) (by omega)
      have c3 : inLen j (m.set i.toNat (l[j.toNat]'hj)).length = true := inLen_ok (by omega) (by simp; omega)
      simp only [slices_Reverse_byte_L0, decide_eq_true h, cond_true, e1, e2, chk_true c1, chk_true c2, chk_true c3, Option.bind_some]
      rw [show w64 (i + 1) = i + 1 from w64_in (by omega) (by omega), show w64 (j - 1) = j - 1 from w64_in (by omega) (by omega)]
      refine ih (i + 1) (j - 1) n _ (by omega) (by omega) (by omega) (by omega) (by omega) (by simp [hm]) fun p hp' => ?_
      rw [List.getElem?_set, List.getElem?_set]
      by_cases q1 : j.toNat = p
      · subst q1
        rw [if_pos rfl, if_pos (by simp; omega), if_pos (by omega), List.getElem?_reverse (by omega), ← List.getElem?_eq_getElem hi]
        congr 1; omega
      · rw [if_neg q1]
        by_cases q2 : i.toNat = p
        · subst q2
          rw [if_pos rfl, if_pos (by omega), if_pos (by omega), List.getElem?_reverse (by omega), ← List.getElem?_eq_getElem hj]
          congr 1; omega
        · rw [if_neg q2, hp p hp']
          by_cases q3 : (p : Int) < i ∨ j < (p : Int)
          · rw [if_pos q3, if_pos (by omega)]
          · rw [if_neg q3, if_neg (by omega)]
    · simp only [slices_Reverse_byte_L0, decide_eq_false h, cond_false]
      congr 2
      apply List.ext_getElem?
      intro p
      by_cases hp' : p < l.length
      · rw [hp p hp']
        split
        · rfl
        · rw [List.getElem?_reverse (by omega)]
          congr 1; omega
      · rw [List.getElem?_eq_none (by omega), List.getElem?_eq_none (by simp; omega)]
theorem reverse_eq (l : List (BitVec 8)) (hl : l.length ≤ 2147483648) : slices_Reverse_byte l = some l.reverse := by
  simp only [slices_Reverse_byte]
  rw [show w64 ((l.length : Int) - 1) = (l.length : Int) - 1 from w64_in (by omega) (by omega)]
  rw [reverse_loop l hl (l.length) 0 ((l.length : Int) - 1) Big l (by omega) (big_lt (by omega)) (by omega) (by omega) (by omega) rfl (fun p hp => by rw [if_neg (by omega)])]
  rfl
theorem putBig_eq (x : BitVec 64) (w : Int) : number_PutBig (x, w) = some (if 1 ≤ w ∧ w ≤ 8 then (leN w.toNat x).reverse else []) := by
  simp only [number_PutBig, putLittle_eq, Option.bind_some]
  split
  · rw [reverse_eq _ (by rw [leN_length]; omega)]; rfl
  · rw [reverse_eq _ (by simp)]; rfl
end Go.Proofs.Ytnhmeldgpgidiaa
/- Plain laws of chapter 1: bits of numbers that are set. -/
namespace Go.Proofs.Ytnhmeldgpgidiaa
open Go Go.Re
set_option linter.unusedVariables false
set_option linter.unusedSimpArgs false
theorem num_set (x y : BitVec 64) (f n : Int) : number_Set (x, f, n, y) = some (if bitsIn f n then (x &&& ~~~maskBV f.toNat n.toNat) ||| ((y <<< f.toNat) &&& maskBV f.toNat n.toNat) else x) := by
  simp only [number_Set, num_mask, Option.bind_some]
  by_cases h : bitsIn f n
  · have e2 : (0 : Int) ≤ f := h.1
    have e3 : x &&& 18446744073709551615#64 = x := by rw [show (18446744073709551615#64) = BitVec.allOnes 64 from rfl, BitVec.and_allOnes]
    simp only [if_pos h]
    by_cases h0 : maskBV f.toNat n.toNat = 0#64
    · simp [h0, e3]
    · simp [h0, e2]
  · simp [if_neg h]
theorem set_bit (x y : BitVec 64) (f n k : Nat) (hf : f + n ≤ 64) (hn : 1 ≤ n) (hk : k < 64) :
    ((x &&& ~~~maskBV f n) ||| ((y <<< f) &&& maskBV f n)).getLsbD k = (if f ≤ k ∧ k < f + n then y.getLsbD (k - f) else x.getLsbD k) := by
  rw [BitVec.getLsbD_or, BitVec.getLsbD_and, BitVec.getLsbD_and, BitVec.getLsbD_not, mask_bit f n _ hf hn, BitVec.getLsbD_shiftLeft]
  by_cases h1 : f ≤ k <;> by_cases h2 : k < f + n <;> simp [h1, h2, hk]
end Go.Proofs.Ytnhmeldgpgidiaa
/- Plain laws of chapter 1: how the reference reads numbers. -/
namespace Go.Proofs.Ytnhmeldgpgidiaa
open Go Go.Re
set_option linter.unusedVariables false
set_option linter.unusedSimpArgs false
theorem ref_big_loop (b p : List (BitVec 8)) (a w : Nat) (hw : w ≤ 8) (hb : b.length ≤ 140737488355328) (ha : a + w ≤ b.length) (hp : p = (b.drop a).take w) : ∀ k i n x, i + k = w → k < n → x.toNat = nv (p.take i).reverse →
    reticuleref01_Big_L0 n (b, (a : Int), (w : Int), x, (i : Int)) = some (Sum.inl (BitVec.ofNat 64 (nv p.reverse))) := by
  have hl : p.length = w := by rw [hp, List.length_take, List.length_drop]; omega
  intro k
  induction k with
  | zero =>
    intro i n x hi hn hx
    obtain ⟨n, rfl⟩ := Nat.exists_eq_succ_of_ne_zero (show n ≠ 0 by omega)
    have h : ¬ ((i : Int) < (w : Int)) := by omega
    simp only [reticuleref01_Big_L0, decide_eq_false h, cond_false]
    rw [List.take_of_length_le (by omega)] at hx
    rw [eq_ofNat hx]
  | succ k ih =>
    intro i n x hi hn hx
    obtain ⟨n, rfl⟩ := Nat.exists_eq_succ_of_ne_zero (show n ≠ 0 by omega)
    have h : ((i : Int) < (w : Int)) := by omega
    have hi' : i < p.length := by omega
    have e1 : w64 ((a : Int) + (i : Int)) = ((a + i : Nat) : Int) := by rw [w64_in] <;> omega
    have e2 : b[a + i]'(by omega) = p[i] := by subst hp; simp
    have hx' : ((x * 256#64) + p[i].setWidth 64).toNat = nv (p.take (i + 1)).reverse := by
      rw [mul256_add x p[i] _ hx (lt_56 (by simp; omega)), nv_take_rev p i hi']
    rw [← ih (i + 1) n _ (by omega) (by omega) hx', ← w64_succ i (by omega), ← e2]
    simp only [reticuleref01_Big_L0, decide_eq_true h, cond_true, e1, ix_at b (a + i) (by omega), Option.bind_some]
theorem ref_big (b : List (BitVec 8)) (a w : Int) (hb : b.length ≤ 140737488355328) :
    reticuleref01_Big (b, a, w) = some (if 1 ≤ w ∧ w ≤ 8 ∧ 0 ≤ a ∧ a ≤ (b.length : Int) - w then (BitVec.ofNat 64 (nv ((b.drop a.toNat).take w.toNat).reverse), true) else (0#64, false)) := by
  simp only [reticuleref01_Big]
  by_cases h1 : w < 1
  · rw [if_neg (by omega)]; simp [h1]
  by_cases h2 : 8 < w
  · rw [if_neg (by omega)]; simp [h1, h2]
  by_cases h3 : a < 0
  · rw [if_neg (by omega)]; simp [h1, h2, h3]
  by_cases h5 : (b.length : Int) < w
  · rw [if_neg (by omega)]; simp [h1, h2, h3, h5]
  have e1 : w64 ((b.length : Int) - w) = (b.length : Int) - w := w64_in (by omega) (by omega)
  by_cases h4 : (b.length : Int) - w < a
  · rw [if_neg (by omega)]; simp [h1, h2, h3, h5, e1, h4]
  rw [if_pos (by omega)]
  have := ref_big_loop b _ a.toNat w.toNat (by omega) hb (by omega) rfl w.toNat 0 Big 0#64 (by omega) (big_lt (by omega)) rfl
  rw [show ((a.toNat : Nat) : Int) = a by omega, show ((w.toNat : Nat) : Int) = w by omega, Int.natCast_zero] at this
  simp only [h1, h2, h3, h4, h5, e1, decide_false, cond_false, Option.bind_some, this, jn_inl]
end Go.Proofs.Ytnhmeldgpgidiaa
/- Plain laws of chapter 6: classes, sizes, which ops there are. -/
namespace Go.Proofs.Ytnhmeldgpgidiaa
open Go Go.Re
set_option linter.unusedVariables false
set_option linter.unusedSimpArgs false
namespace Cdb
abbrev BY := List (BitVec 8)
abbrev Cmd := Int × (BitVec 64 × (Int × (Int × (Int × Unit))))
abbrev Sn := Int × (Int × (Int × Unit))
abbrev Span := Int × (Int × (Int × (Int × Unit)))
abbrev Bag := List (Span × BitVec 64)
abbrev Shape := Span × (Span × (Span × (Span × (Bag × Unit))))
def opsB : List Int := [8, 40, 168, 136, 10, 42, 170, 138, 47, 175, 143, 53, 145]
def opsR : List Int := [0, 3, 18, 21, 85, 26, 90, 27, 30, 37, 158, 160]
def ops : List Int := opsB ++ opsR
def clsI (x : Int) : Int := if x ∈ [8, 40, 168, 136] then 1 else if x ∈ [10, 42, 170, 138] then 2 else if x ∈ [47, 175, 143] then 3 else if x ∈ [53, 145] then 4 else 0
def sizeI (x : Int) : Int := if x ∈ ops then (if x < 32 then 6 else if x < 128 then 10 else if x < 160 then 16 else 12) else 0
theorem notIn {x a : Int} {l : List Int} (h : x ∉ l) (ha : a ∈ l) : x ≠ a := fun e => h (e ▸ ha)

theorem cls_eq (x : Int) : cdb_Class x = some (clsI x) ∧ reticuleref06_Class x = some (clsI x) := by
  by_cases h : x ∈ opsB
  · simp only [opsB, List.mem_cons, List.not_mem_nil, or_false] at h
    rcases h with rfl | rfl | rfl | rfl | rfl | rfl | rfl | rfl | rfl | rfl | rfl | rfl | rfl <;> exact ⟨rfl, rfl⟩
  · simp only [opsB, List.mem_cons, List.not_mem_nil, or_false, not_or] at h
    obtain ⟨h1, h2, h3, h4, h5, h6, h7, h8, h9, h10, h11, h12, h13⟩ := h
    constructor
    · simp only [cdb_Class, decide_eq_false h1, decide_eq_false h2, decide_eq_false h3, decide_eq_false h4, decide_eq_false h5, decide_eq_false h6, decide_eq_false h7, decide_eq_false h8, decide_eq_false h9, decide_eq_false h10, decide_eq_false h11, decide_eq_false h12, decide_eq_false h13, cond_false, jn_inl]
      simp [clsI, h1, h2, h3, h4, h5, h6, h7, h8, h9, h10, h11, h12, h13]
    · simp only [reticuleref06_Class, decide_eq_false h1, decide_eq_false h2, decide_eq_false h3, decide_eq_false h4, decide_eq_false h5, decide_eq_false h6, decide_eq_false h7, decide_eq_false h8, decide_eq_false h9, decide_eq_false h10, decide_eq_false h11, decide_eq_false h12, decide_eq_false h13, cond_false, jn_inl]
      simp [clsI, h1, h2, h3, h4, h5, h6, h7, h8, h9, h10, h11, h12, h13]
theorem cls_pos (x : Int) : 0 < clsI x ↔ x ∈ opsB := by
  constructor
  · intro h
    by_cases h' : x ∈ opsB
    · exact h'
    · exfalso
      simp only [opsB, List.mem_cons, List.not_mem_nil, or_false, not_or] at h'
      simp [clsI, h'] at h
  · intro h
    simp only [opsB, List.mem_cons, List.not_mem_nil, or_false] at h
    rcases h with rfl | rfl | rfl | rfl | rfl | rfl | rfl | rfl | rfl | rfl | rfl | rfl | rfl <;> decide
theorem cls_zero (x : Int) : clsI x = 0 ↔ x ∉ opsB := by
  rw [← cls_pos]
  have : 0 ≤ clsI x := by unfold clsI; split <;> (try split) <;> (try split) <;> (try split) <;> decide
  omega

theorem has_loop (l : List Int) (c : Int) (hl : l.length ≤ 2147483648) : ∀ k i n, i + k = l.length → k < n →
    reticuleref01_Has_L0 n (l, c, (i : Int)) = some (if c ∈ l.drop i then Sum.inr true else Sum.inl ()) := by
  intro k
  induction k with
  | zero =>
    intro i n hi hn
    obtain ⟨n, rfl⟩ := Nat.exists_eq_succ_of_ne_zero (show n ≠ 0 by omega)
    have h : ¬ ((i : Int) < (l.length : Int)) := by omega
    rw [List.drop_eq_nil_of_le (by omega)]
    simp only [reticuleref01_Has_L0, decide_eq_false h, cond_false, List.not_mem_nil, if_false]
  | succ k ih =>
    intro i n hi hn
    obtain ⟨n, rfl⟩ := Nat.exists_eq_succ_of_ne_zero (show n ≠ 0 by omega)
    have h : ((i : Int) < (l.length : Int)) := by omega
    have hi' : i < l.length := by omega
    rw [List.drop_eq_getElem_cons hi']
    simp only [reticuleref01_Has_L0, decide_eq_true h, cond_true, ix_at l i hi', Option.bind_some]
    by_cases hc : l[i] = c
    · simp [hc]
    · have hc' : ¬ c = l[i] := fun e => hc e.symm
      have hw := w64_succ i (by omega)
      simp only [decide_eq_false hc, cond_false, hw, ih (i + 1) n (by omega) (by omega), List.mem_cons, hc', false_or]
theorem has_eq (l : List Int) (c : Int) (hl : l.length ≤ 2147483648) : reticuleref01_Has (l, c) = some (decide (c ∈ l)) := by
  have := has_loop l c hl l.length 0 Big (by omega) (big_lt (by omega))
  simp only [Int.natCast_zero, List.drop_zero] at this
  simp only [reticuleref01_Has, this]
  by_cases h : c ∈ l
  · simp only [if_pos h, jn_inr, decide_eq_true h]
  · simp only [if_neg h, jn_inl, decide_eq_false h]

theorem known_eq (x : Int) : cdb_Known x = some (decide (x ∈ ops)) ∧ reticuleref06_Known x = some (decide (x ∈ ops)) := by
  have hm : x ∈ ops ↔ x ∈ opsB ∨ x ∈ opsR := List.mem_append
  constructor
  · by_cases h : x ∈ opsR
    · rw [decide_eq_true (hm.2 (.inr h))]
      simp only [opsR, List.mem_cons, List.not_mem_nil, or_false] at h
      rcases h with rfl | rfl | rfl | rfl | rfl | rfl | rfl | rfl | rfl | rfl | rfl | rfl <;> rfl
    · have h0 := h
      simp only [opsR, List.mem_cons, List.not_mem_nil, or_false, not_or] at h
      obtain ⟨h1, h2, h3, h4, h5, h6, h7, h8, h9, h10, h11, h12⟩ := h
      simp only [cdb_Known, decide_eq_false h1, decide_eq_false h2, decide_eq_false h3, decide_eq_false h4, decide_eq_false h5, decide_eq_false h6, decide_eq_false h7, decide_eq_false h8, decide_eq_false h9, decide_eq_false h10, decide_eq_false h11, decide_eq_false h12, cond_false, jn_inl, (cls_eq x).1, Option.bind_some]
      congr 1
      rw [← decide_not]
      apply decide_eq_decide.2
      rw [hm, cls_zero]
      constructor
      · intro h; exact .inl (Classical.not_not.1 h)
      · rintro (h | h)
        · exact fun h' => h' h
        · exact absurd h h0
  · have h12 : (([0, 3, 18, 21, 85, 26, 90, 27, 30, 37, 158, 160] : List Int).length ≤ 2147483648) := by decide
    simp only [reticuleref06_Known, (cls_eq x).2, Option.bind_some, has_eq _ _ h12]
    by_cases h : x ∈ opsB
    · rw [decide_eq_true ((cls_pos x).2 h), decide_eq_true (hm.2 (.inl h))]; rfl
    · rw [decide_eq_false (fun h' => h ((cls_pos x).1 h'))]
      simp only [cond_false, Option.bind_some]
      congr 1
      apply decide_eq_decide.2
      rw [hm]
      constructor
      · exact .inr
      · rintro (h' | h')
        · exact absurd h' h
        · exact h'
theorem size_eq (x : Int) : cdb_Size x = some (sizeI x) ∧ reticuleref06_Size x = some (sizeI x) := by
  simp only [cdb_Size, reticuleref06_Size, (known_eq x).1, (known_eq x).2, Option.bind_some]
  by_cases h : x ∈ ops
  · simp only [decide_eq_true h, Bool.not_true, cond_false]
    simp only [ops, opsB, opsR, List.cons_append, List.nil_append, List.mem_cons, List.not_mem_nil, or_false] at h
    rcases h with rfl | rfl | rfl | rfl | rfl | rfl | rfl | rfl | rfl | rfl | rfl | rfl | rfl | rfl | rfl | rfl | rfl | rfl | rfl | rfl | rfl | rfl | rfl | rfl | rfl <;> exact ⟨by kernel_rfl, by kernel_rfl⟩
  · simp only [decide_eq_false h, Bool.not_false, cond_true, sizeI, if_neg h, and_self]

/-! ### shapes -/
noncomputable def shp (x : Int) : Shape := (cdb_of x).getD ((0, 0, 0, 0, ()), (0, 0, 0, 0, ()), (0, 0, 0, 0, ()), (0, 0, 0, 0, ()), [], ())
/-- Where a span lies: nowhere, or in so many bytes behind the first and ahead of the last. -/
def okSp (n : Nat) (s : Span) : Bool :=
  decide (s = (0, 0, 0, 0, ())) || (decide (1 ≤ s.1) && (decide (1 ≤ s.2.1) && (decide (s.2.1 ≤ 8) && (decide (s.1 + s.2.1 < (n : Int)) &&
    ((decide (s.2.2.2.1 = 0) && decide (s.2.2.1 = 0)) || (decide (0 ≤ s.2.2.1) && (decide (1 ≤ s.2.2.2.1) && decide (s.2.2.1 + s.2.2.2.1 ≤ 8 * s.2.1))))))))
def okShp (n : Nat) (s : Shape) : Bool := okSp n s.1 && (okSp n s.2.1 && (okSp n s.2.2.1 && (okSp n s.2.2.2.1 && (s.2.2.2.2.1.all fun p => okSp n p.1 && decide (0 < p.1.2.1)))))
def keysU : Bag → Bool
  | [] => true
  | p :: r => (r.all fun q => !decide (p.1 = q.1)) && keysU r
theorem of_some (x : Int) (h : x ∈ ops) : cdb_of x = some (shp x) ∧ okShp (sizeI x).toNat (shp x) = true ∧ keysU (shp x).2.2.2.2.1 = true ∧ 6 ≤ (sizeI x).toNat ∧ (sizeI x).toNat ≤ 16 := by
  simp only [ops, opsB, opsR, List.cons_append, List.nil_append, List.mem_cons, List.not_mem_nil, or_false] at h
  rcases h with rfl | rfl | rfl | rfl | rfl | rfl | rfl | rfl | rfl | rfl | rfl | rfl | rfl | rfl | rfl | rfl | rfl | rfl | rfl | rfl | rfl | rfl | rfl | rfl | rfl <;> exact ⟨by kernel_rfl, by kernel_rfl, by kernel_rfl, by decide +kernel, by decide +kernel⟩
end Cdb
end Go.Proofs.Ytnhmeldgpgidiaa
/- Plain laws of chapter 6: spans that are read; what any bytes are parsed as, by the program. -/
namespace Go.Proofs.Ytnhmeldgpgidiaa
open Go Go.Re
set_option linter.unusedVariables false
set_option linter.unusedSimpArgs false
namespace Cdb
def bigV (b : BY) (a w : Int) : BitVec 64 := if 1 ≤ w ∧ w ≤ 8 ∧ 0 ≤ a ∧ a ≤ (b.length : Int) - w then BitVec.ofNat 64 (nv ((b.drop a.toNat).take w.toNat).reverse) else 0#64
def getV (s : Span) (b : BY) : BitVec 64 :=
  if 0 < s.2.2.2.1 then (if bitsIn s.2.2.1 s.2.2.2.1 then (bigV b s.1 s.2.1 &&& maskBV s.2.2.1.toNat s.2.2.2.1.toNat) >>> s.2.2.1.toNat else 0#64) else bigV b s.1 s.2.1
theorem big_eq (b : BY) (a w : Int) (hb : b.length ≤ 140737488355328) : ∃ k, number_Big (b, a, w) = some (bigV b a w, k) := by
  rw [num_big b a w hb]
  unfold bigV
  split
  · exact ⟨_, rfl⟩
  · exact ⟨_, rfl⟩
theorem get_eq (s : Span) (b : BY) (hb : b.length ≤ 140737488355328) : cdb_span_get (s, b) = some (getV s b) := by
  obtain ⟨k, hk⟩ := big_eq b s.1 s.2.1 hb
  simp only [cdb_span_get, hk, Option.bind_some, num_bits, getV]
  by_cases h : 0 < s.2.2.2.1
  · simp only [decide_eq_true h, cond_true, jn_inl, if_pos h]
  · simp only [decide_eq_false h, cond_false, jn_inl, if_neg h]

def zC : Cmd := (0, 0#64, 0, 0, 0, ())
def zS : Sn := (0, 0, 0, ())
def fieldS : Sn := (5, 36, 0, ())
def noS : Sn := (5, 32, 0, ())
/-- No two of a key. -/
def Uniq (l : Bag) : Prop := ∀ p ∈ l, ∀ q ∈ l, p.1 = q.1 → p = q
theorem Uniq.filter {l : Bag} (h : Uniq l) (f : Span × BitVec 64 → Bool) : Uniq (l.filter f) := fun p hp q hq => h p (List.mem_filter.1 hp).1 q (List.mem_filter.1 hq).1
theorem keysU_uniq : ∀ {l : Bag}, keysU l = true → Uniq l
  | [], _ => fun p hp => by cases hp
  | a :: r, h => by
    simp only [keysU, Bool.and_eq_true, List.all_eq_true, Bool.not_eq_true', decide_eq_false_iff_not] at h
    intro p hp q hq e
    rcases List.mem_cons.1 hp with rfl | hp
    · rcases List.mem_cons.1 hq with rfl | hq
      · rfl
      · exact absurd e (h.1 q hq)
    · rcases List.mem_cons.1 hq with rfl | hq
      · exact absurd e.symm (h.1 p ‹_›)
      · exact keysU_uniq h.2 p hp q hq e
/-- what is left behind a key -/
def rmK (k : Span) (l : Bag) : Bag := l.filter fun q => !((decide (q.1.1 = k.1)) && ((decide (q.1.2.1 = k.2.1)) && ((decide (q.1.2.2.1 = k.2.2.1)) && ((decide (q.1.2.2.2.1 = k.2.2.2.1)) && true))))
theorem key_eq (a k : Span) : ((decide (a.1 = k.1)) && ((decide (a.2.1 = k.2.1)) && ((decide (a.2.2.1 = k.2.2.1)) && ((decide (a.2.2.2.1 = k.2.2.2.1)) && true)))) = decide (a = k) := by
  obtain ⟨a1, a2, a3, a4, _⟩ := a
  obtain ⟨k1, k2, k3, k4, _⟩ := k
  by_cases h : (a1, a2, a3, a4, ()) = (k1, k2, k3, k4, ())
  · rw [decide_eq_true h]
    cases h
    simp
  · rw [decide_eq_false h]
    simp only [Prod.mk.injEq, and_true, not_and] at h
    simp only [Bool.and_true, Bool.and_eq_false_imp, decide_eq_true_eq, decide_eq_false_iff_not]
    exact h
theorem mem_rmK {k : Span} {l : Bag} {q : Span × BitVec 64} : q ∈ rmK k l ↔ q ∈ l ∧ q.1 ≠ k := by
  simp only [rmK, key_eq, List.mem_filter, Bool.not_eq_true', decide_eq_false_iff_not]
theorem rmK_lt {l : Bag} {p : Span × BitVec 64} (h : p ∈ l) : (rmK p.1 l).length < l.length := by
  unfold rmK
  apply Nat.lt_of_le_of_ne (List.length_filter_le _ _)
  intro e
  have := List.length_filter_eq_length_iff.1 e p h
  rw [key_eq] at this
  simp at this

theorem parse_loop (b : BY) (hb : b.length ≤ 140737488355328) (z1 : Cmd) (z2 : Sn) (op size : Int) (s : Shape) : ∀ k n (l : Bag) (p0 : Span × BitVec 64), l.length ≤ k → k < n → Uniq l →
    cdb_Parse_L0 n (b, z1, z2, op, size, s, p0 :: l) = some (if ∀ q ∈ l, getV q.1 b = q.2 then Sum.inl (b, z1, z2, op, size, s) else Sum.inr (zC, fieldS)) := by
  intro k
  induction k with
  | zero =>
    intro n l p0 hl hn hu
    obtain ⟨n, rfl⟩ := Nat.exists_eq_succ_of_ne_zero (show n ≠ 0 by omega)
    have : l = [] := List.length_eq_zero_iff.1 (by omega)
    subst this
    simp [cdb_Parse_L0]
  | succ k ih =>
    intro n l p0 hl hn hu
    obtain ⟨n, rfl⟩ := Nat.exists_eq_succ_of_ne_zero (show n ≠ 0 by omega)
    cases l with
    | nil => simp [cdb_Parse_L0]
    | cons a r =>
      unfold cdb_Parse_L0
      simp only [List.tail_cons, List.isEmpty_cons, cond_false]
      refine agreeL_intro ⟨a, List.mem_cons_self⟩ fun p hp => ?_
      rw [get_eq _ _ hb, Option.bind_some]
      by_cases hg : getV p.1 b = p.2
      · simp only [decide_eq_true hg, Bool.not_true, cond_false]
        have hlt := rmK_lt hp
        show cdb_Parse_L0 n (b, z1, z2, op, size, s, p :: rmK p.1 (a :: r)) = _
        rw [ih n (rmK p.1 (a :: r)) p (by omega) (by omega) (hu.filter _)]
        congr 1
        have : (∀ q ∈ rmK p.1 (a :: r), getV q.1 b = q.2) ↔ ∀ q ∈ a :: r, getV q.1 b = q.2 := by
          constructor
          · intro h q hq
            by_cases e : q.1 = p.1
            · rw [hu q hq p hp e]; exact hg
            · exact h q (mem_rmK.2 ⟨hq, e⟩)
          · exact fun h q hq => h q (mem_rmK.1 hq).1
        simp only [this]
      · have : ¬ ∀ q ∈ a :: r, getV q.1 b = q.2 := fun h => hg (h p hp)
        simp only [decide_eq_false hg, Bool.not_false, cond_true, if_neg this]
        rfl

def fineB (c : Cmd) (b : BY) : Bool :=
  if c.1 = 18 then decide (c.2.2.2.1 = 0) || decide (c.2.2.2.2.1 = 1) else if c.1 = 30 then decide (c.2.2.2.2.1 < 2) else if c.1 = 160 then decide (b.getD 2 0#8 ≤ 2#8) && decide (16 ≤ c.2.2.1) else true
theorem fine_eq (c : Cmd) (b : BY) (h : 3 ≤ b.length) : cdb_fine (c, b) = some (fineB c b) := by
  have h2 : ix b (2 : Int) = some (b.getD 2 0#8) := by
    have := ix_at b 2 (by omega)
    rw [show ((2 : Nat) : Int) = 2 from rfl] at this
    rw [this, List.getD_eq_getElem?_getD, List.getElem?_eq_getElem (by omega)]; rfl
  simp only [cdb_fine, fineB]
  by_cases h1 : c.1 = 18
  · simp only [decide_eq_true h1, cond_true, if_pos h1]
    cases decide (c.2.2.2.1 = 0) <;> rfl
  · by_cases h3 : c.1 = 30
    · simp only [decide_eq_false h1, decide_eq_true h3, cond_true, cond_false, if_neg h1, if_pos h3]
    · by_cases h4 : c.1 = 160
      · simp only [decide_eq_false h1, decide_eq_false h3, decide_eq_true h4, cond_true, cond_false, if_neg h1, if_neg h3, if_pos h4, h2, Option.bind_some]
        cases decide (b.getD 2 0#8 ≤ 2#8) <;> rfl
      · simp only [decide_eq_false h1, decide_eq_false h3, decide_eq_false h4, cond_false, if_neg h1, if_neg h3, if_neg h4]

/-- What a shape's spans of some bytes are. -/
noncomputable def fieldsC (op : Int) (b : BY) : Cmd :=
  (op, getV (shp op).1 b, if sizeI op = 6 ∧ op ∈ opsB ∧ w64 ((getV (shp op).2.1 b).toNat : Int) = 0 then 256 else w64 ((getV (shp op).2.1 b).toNat : Int), w64 ((getV (shp op).2.2.1 b).toNat : Int), w64 ((getV (shp op).2.2.2.1 b).toNat : Int), ())
open Classical in
noncomputable def parseC (b : BY) : Cmd × Sn :=
  if b = [] ∨ ((b.getD 0 0#8).toNat : Int) ∉ ops then (zC, noS)
  else if (sizeI ((b.getD 0 0#8).toNat : Int)).toNat ≤ b.length ∧ b.getD ((sizeI ((b.getD 0 0#8).toNat : Int)).toNat - 1) 0#8 = 0#8 ∧
      (∀ q ∈ (shp ((b.getD 0 0#8).toNat : Int)).2.2.2.2.1, getV q.1 b = q.2) ∧ fineB (fieldsC ((b.getD 0 0#8).toNat : Int) b) b = true then
    (fieldsC ((b.getD 0 0#8).toNat : Int) b, zS)
  else (zC, fieldS)

theorem ix_getD (b : BY) (i : Nat) (h : i < b.length) : ix b (i : Int) = some (b.getD i 0#8) := by
  rw [ix_at b i h, List.getD_eq_getElem?_getD, List.getElem?_eq_getElem h]; rfl
theorem parse_eq (b : BY) (hb : b.length ≤ 140737488355328) : cdb_Parse b = some (parseC b) := by
  cases hbb : b with
  | nil => rfl
  | cons a r =>
    rw [← hbb]
    have hpos : 0 < b.length := by rw [hbb]; simp
    have hne : b ≠ [] := by rw [hbb]; simp
    have h0 : ¬ ((b.length : Int) = 0) := by omega
    have i0 : ix b (0 : Int) = some (b.getD 0 0#8) := ix_getD b 0 hpos
    unfold cdb_Parse parseC
    simp only [decide_eq_false h0, cond_false, i0, Option.bind_some, (known_eq _).1, (size_eq _).1]
    generalize hop : ((b.getD 0 0#8).toNat : Int) = op
    by_cases hk : op ∈ ops
    · obtain ⟨g1, g2, g3, g4, g5⟩ := of_some op hk
      have hsz : sizeI op = ((sizeI op).toNat : Int) := by omega
      have hc : ¬ (b = [] ∨ op ∉ ops) := fun h => h.elim hne (fun h => h hk)
      simp only [decide_eq_true hk, Bool.not_true, cond_false, if_neg hc, g1, Option.bind_some]
      generalize hN : (sizeI op).toNat = N at *
      by_cases hl : N ≤ b.length
      · have h1 : ¬ ((b.length : Int) < sizeI op) := by omega
        have hw : w64 (sizeI op - 1) = ((N - 1 : Nat) : Int) := by rw [w64_in] <;> omega
        simp only [decide_eq_false h1, cond_false, hw, ix_getD b (N - 1) (by omega), Option.bind_some]
        by_cases hz : b.getD (N - 1) 0#8 = 0#8
        · simp only [decide_eq_true hz, Bool.not_true, cond_false]
          have hL : (shp op).2.2.2.2.1.length < Big := by
            have : (shp op).2.2.2.2.1.length ≤ 100 := by
              clear hop hc h1 hw hz hsz hl hN
              simp only [ops, opsB, opsR, List.cons_append, List.nil_append, List.mem_cons, List.not_mem_nil, or_false] at hk
              rcases hk with rfl | rfl | rfl | rfl | rfl | rfl | rfl | rfl | rfl | rfl | rfl | rfl | rfl | rfl | rfl | rfl | rfl | rfl | rfl | rfl | rfl | rfl | rfl | rfl | rfl <;> decide +kernel
            exact Nat.lt_of_le_of_lt this (by decide)
          rw [parse_loop b hb _ _ _ _ _ _ Big _ _ (Nat.le_refl _) hL (keysU_uniq g3)]
          by_cases hm : ∀ q ∈ (shp op).2.2.2.2.1, getV q.1 b = q.2
          · simp only [if_pos hm, jn_inl, get_eq _ _ hb, Option.bind_some, (cls_eq op).1]
            have hR : (if N ≤ b.length ∧ b.getD (N - 1) 0#8 = 0#8 ∧ (∀ q ∈ (shp op).2.2.2.2.1, getV q.1 b = q.2) ∧ fineB (fieldsC op b) b = true then (fieldsC op b, zS) else (zC, fieldS)) =
                if fineB (fieldsC op b) b = true then (fieldsC op b, zS) else (zC, fieldS) := by
              by_cases hq : fineB (fieldsC op b) b = true
              · rw [if_pos ⟨hl, hz, hm, hq⟩, if_pos hq]
              · rw [if_neg (fun h => hq h.2.2.2), if_neg hq]
            rw [hR]
            have fin : ∀ c : Cmd, fieldsC op b = c → ((cdb_fine (c, b)).bind fun r23 => bif !r23 then (sense_Field ()).bind fun r4 => some ((0, 0#64, 0, 0, 0, ()), r4) else some (c, 0, 0, 0, ())) =
                some (if fineB (fieldsC op b) b = true then (fieldsC op b, zS) else (zC, fieldS)) := by
              intro c hc
              subst hc
              rw [fine_eq _ b (by omega), Option.bind_some]
              cases fineB (fieldsC op b) b <;> rfl
            by_cases e : sizeI op = 6 ∧ op ∈ opsB ∧ w64 ((getV (shp op).2.1 b).toNat : Int) = 0
            · have e2' : ¬ clsI op = 0 := fun h => (cls_zero op).1 h e.2.1
              simp only [decide_eq_true e.1, cond_true, decide_eq_false e2', Bool.not_false, Option.bind_some, decide_eq_true e.2.2, jn_inl]
              exact fin _ (by unfold fieldsC; rw [if_pos e])
            · have f := fin _ (by unfold fieldsC; rw [if_neg e])
              by_cases e1 : sizeI op = 6
              · by_cases e2 : op ∈ opsB
                · have e2' : ¬ clsI op = 0 := fun h => (cls_zero op).1 h e2
                  have e3 : ¬ w64 ((getV (shp op).2.1 b).toNat : Int) = 0 := fun h => e ⟨e1, e2, h⟩
                  simp only [decide_eq_true e1, cond_true, cond_false, decide_eq_false e2', Bool.not_false, Option.bind_some, decide_eq_false e3, jn_inl]
                  exact f
                · have e2' : clsI op = 0 := (cls_zero op).2 e2
                  simp only [decide_eq_true e1, cond_true, cond_false, decide_eq_true e2', Bool.not_true, Option.bind_some, jn_inl]
                  exact f
              · simp only [decide_eq_false e1, cond_false, Option.bind_some, jn_inl]
                exact f
          · simp only [if_neg hm, jn_inr]
            rw [if_neg (fun h => hm h.2.2.1)]
        · simp only [decide_eq_false hz, Bool.not_false, cond_true]
          rw [if_neg (fun h => hz h.2.1)]; rfl
      · have h1 : ((b.length : Int) < sizeI op) := by omega
        simp only [decide_eq_true h1, cond_true, Option.bind_some]
        rw [if_neg (fun h => hl h.1)]; rfl
    · simp only [decide_eq_false hk, Bool.not_false, cond_true]
      rw [if_pos (.inr hk)]; rfl
end Cdb
end Go.Proofs.Ytnhmeldgpgidiaa
/- Plain laws of chapter 6: what any bytes are parsed as, by the document. -/
namespace Go.Proofs.Ytnhmeldgpgidiaa
open Go Go.Re
set_option linter.unusedVariables false
set_option linter.unusedSimpArgs false
namespace Cdb
theorem ref_big_eq (b : BY) (a w : Int) (hb : b.length ≤ 140737488355328) : reticuleref06_big (b, a, w) = some (bigV b a w) := by
  simp only [reticuleref06_big, ref_big b a w hb, Option.bind_some]
  unfold bigV
  split <;> rfl
theorem bits_nat (x : BitVec 64) (f n : Nat) (hf : f + n ≤ 64) (hn : 1 ≤ n) : ((x &&& maskBV f n) >>> f).toNat = x.toNat / 2 ^ f % 2 ^ n := by
  have : (x &&& maskBV f n) >>> f = (x >>> f) &&& maskBV 0 n := by
    apply BitVec.eq_of_getLsbD_eq
    intro i hi
    rw [bits_bit x f n i hf hn, BitVec.getLsbD_and, BitVec.getLsbD_ushiftRight, mask_bit 0 n i (by omega) hn]
    cases x.getLsbD (f + i) <;> simp
  rw [this]
  apply Nat.eq_of_testBit_eq
  intro i
  rw [Nat.testBit_mod_two_pow, Nat.testBit_div_two_pow]
  by_cases hi : i < 64
  · have : ((x >>> f) &&& maskBV 0 n).toNat.testBit i = ((x >>> f) &&& maskBV 0 n).getLsbD i := rfl
    rw [this, BitVec.getLsbD_and, BitVec.getLsbD_ushiftRight, mask_bit 0 n i (by omega) hn]
    have h2 : x.toNat.testBit (i + f) = x.getLsbD (f + i) := by rw [Nat.add_comm]; rfl
    rw [h2]
    cases x.getLsbD (f + i) <;> simp
  · have h1 : ((x >>> f) &&& maskBV 0 n).toNat.testBit i = false := Nat.testBit_lt_two_pow (Nat.lt_of_lt_of_le (BitVec.isLt _) (Nat.pow_le_pow_right (by decide) (by omega)))
    rw [h1]
    have : ¬ i < n := by omega
    simp [this]
/-- The bytes of a place as a number. -/
def bigN (b : BY) (a w : Nat) : Nat := nv ((b.drop a).take w).reverse
theorem bigV_nat (b : BY) (a w : Nat) (h1 : 1 ≤ w) (h2 : w ≤ 8) (h3 : a + w ≤ b.length) : (bigV b a w).toNat = bigN b a w := by
  have h : 1 ≤ (w : Int) ∧ (w : Int) ≤ 8 ∧ 0 ≤ (a : Int) ∧ (a : Int) ≤ (b.length : Int) - w := by omega
  unfold bigV bigN
  rw [if_pos h]
  simp only [Int.toNat_natCast, BitVec.toNat_ofNat]
  exact Nat.mod_eq_of_lt (nv_lt64 (by simp; omega))
theorem get_whole (b : BY) (a w : Int) : getV (a, w, 0, 0, ()) b = bigV b a w := rfl
theorem get_bits (b : BY) (a w f n : Nat) (h1 : 1 ≤ w) (h2 : w ≤ 8) (h3 : a + w ≤ b.length) (h4 : 1 ≤ n) (h5 : f + n ≤ 64) : (getV ((a : Int), (w : Int), (f : Int), (n : Int), ()) b).toNat = bigN b a w / 2 ^ f % 2 ^ n := by
  have h : bitsIn (f : Int) (n : Int) := ⟨by omega, by omega, by omega, by omega⟩
  have h6 : 0 < (n : Int) := by omega
  simp only [getV, if_pos h6, if_pos h, Int.toNat_natCast]
  rw [bits_nat _ _ _ h5 h4, bigV_nat b a w h1 h2 h3]
theorem bigN_one (b : BY) (a : Nat) (h : a < b.length) : bigN b a 1 = (b.getD a 0#8).toNat := by
  unfold bigN
  rw [List.drop_eq_getElem_cons h, List.take_succ_cons, List.take_zero, List.getD_eq_getElem?_getD, List.getElem?_eq_getElem h]
  simp [nv]
theorem bigN_succ (b : BY) (a w : Nat) (h : a + w < b.length) : bigN b a (w + 1) = (b.getD (a + w) 0#8).toNat + 256 * bigN b a w := by
  unfold bigN
  have hl : w < (b.drop a).length := by simp; omega
  rw [nv_take_rev (b.drop a) w hl, List.getD_eq_getElem?_getD, List.getElem?_eq_getElem h]
  simp
theorem bigN_take (b : BY) (n a w : Nat) (h : a + w ≤ n) : bigN (b.take n) a w = bigN b a w := by
  unfold bigN
  rw [List.drop_take, List.take_take, Nat.min_eq_left (by omega)]
theorem bigV_take (b : BY) (n a w : Nat) (h1 : 1 ≤ w) (h2 : w ≤ 8) (h : a + w ≤ n) (hn : n ≤ b.length) : bigV (b.take n) a w = bigV b a w := by
  apply BitVec.eq_of_toNat_eq
  rw [bigV_nat _ _ _ h1 h2 (by simp; omega), bigV_nat _ _ _ h1 h2 (by omega), bigN_take _ _ _ _ h]
theorem take_getD (b : BY) (n i : Nat) (h : i < n) : (b.take n).getD i 0#8 = b.getD i 0#8 := by
  simp [List.getD_eq_getElem?_getD, List.getElem?_take, h]
theorem bigN_lt (b : BY) (a w : Nat) : bigN b a w < 256 ^ w := by
  unfold bigN
  refine Nat.lt_of_lt_of_le (nv_lt _) (Nat.pow_le_pow_right (by decide) ?_)
  simp; omega
theorem w64_nat (n : Nat) (h : n < 9223372036854775808) : w64 (n : Int) = (n : Int) := by rw [w64_in] <;> omega
theorem bv_eq_iff {w : Nat} {x y : BitVec w} : x = y ↔ x.toNat = y.toNat := ⟨fun h => by rw [h], BitVec.eq_of_toNat_eq⟩
end Cdb
end Go.Proofs.Ytnhmeldgpgidiaa
/- Plain laws of chapter 6: any bytes are parsed alike. -/
namespace Go.Proofs.Ytnhmeldgpgidiaa
open Go Go.Re
set_option linter.unusedVariables false
set_option linter.unusedSimpArgs false
namespace Cdb
theorem shp_8 : shp 8 = ((1, 3, 0, 21, ()), (4, 1, 0, 0, ()), (0, 0, 0, 0, ()), (0, 0, 0, 0, ()), [], ()) := by kernel_rfl
theorem shp_40 : shp 40 = ((2, 4, 0, 0, ()), (7, 2, 0, 0, ()), (0, 0, 0, 0, ()), (1, 1, 3, 1, ()), [], ()) := by kernel_rfl
theorem shp_168 : shp 168 = ((2, 4, 0, 0, ()), (6, 4, 0, 0, ()), (0, 0, 0, 0, ()), (1, 1, 3, 1, ()), [], ()) := by kernel_rfl
theorem shp_136 : shp 136 = ((2, 8, 0, 0, ()), (10, 4, 0, 0, ()), (0, 0, 0, 0, ()), (1, 1, 3, 1, ()), [], ()) := by kernel_rfl
theorem shp_10 : shp 10 = ((1, 3, 0, 21, ()), (4, 1, 0, 0, ()), (0, 0, 0, 0, ()), (0, 0, 0, 0, ()), [], ()) := by kernel_rfl
theorem shp_42 : shp 42 = ((2, 4, 0, 0, ()), (7, 2, 0, 0, ()), (0, 0, 0, 0, ()), (1, 1, 3, 1, ()), [], ()) := by kernel_rfl
theorem shp_170 : shp 170 = ((2, 4, 0, 0, ()), (6, 4, 0, 0, ()), (0, 0, 0, 0, ()), (1, 1, 3, 1, ()), [], ()) := by kernel_rfl
theorem shp_138 : shp 138 = ((2, 8, 0, 0, ()), (10, 4, 0, 0, ()), (0, 0, 0, 0, ()), (1, 1, 3, 1, ()), [], ()) := by kernel_rfl
theorem shp_47 : shp 47 = ((2, 4, 0, 0, ()), (7, 2, 0, 0, ()), (0, 0, 0, 0, ()), (1, 1, 1, 1, ()), [((1, 1, 2, 1, ()), 0#64)], ()) := by kernel_rfl
theorem shp_175 : shp 175 = ((2, 4, 0, 0, ()), (6, 4, 0, 0, ()), (0, 0, 0, 0, ()), (1, 1, 1, 1, ()), [((1, 1, 2, 1, ()), 0#64)], ()) := by kernel_rfl
theorem shp_143 : shp 143 = ((2, 8, 0, 0, ()), (10, 4, 0, 0, ()), (0, 0, 0, 0, ()), (1, 1, 1, 1, ()), [((1, 1, 2, 1, ()), 0#64)], ()) := by kernel_rfl
theorem shp_53 : shp 53 = ((2, 4, 0, 0, ()), (7, 2, 0, 0, ()), (0, 0, 0, 0, ()), (0, 0, 0, 0, ()), [], ()) := by kernel_rfl
theorem shp_145 : shp 145 = ((2, 8, 0, 0, ()), (10, 4, 0, 0, ()), (0, 0, 0, 0, ()), (0, 0, 0, 0, ()), [], ()) := by kernel_rfl
theorem shp_0 : shp 0 = ((0, 0, 0, 0, ()), (0, 0, 0, 0, ()), (0, 0, 0, 0, ()), (0, 0, 0, 0, ()), [], ()) := by kernel_rfl
theorem shp_3 : shp 3 = ((0, 0, 0, 0, ()), (4, 1, 0, 0, ()), (0, 0, 0, 0, ()), (0, 0, 0, 0, ()), [((1, 1, 0, 1, ()), 0#64)], ()) := by kernel_rfl
theorem shp_18 : shp 18 = ((0, 0, 0, 0, ()), (3, 2, 0, 0, ()), (2, 1, 0, 0, ()), (1, 1, 0, 1, ()), [], ()) := by kernel_rfl
theorem shp_21 : shp 21 = ((0, 0, 0, 0, ()), (4, 1, 0, 0, ()), (0, 0, 0, 0, ()), (0, 0, 0, 0, ()), [((1, 1, 4, 1, ()), 1#64), ((1, 1, 0, 1, ()), 0#64)], ()) := by kernel_rfl
theorem shp_85 : shp 85 = ((0, 0, 0, 0, ()), (7, 2, 0, 0, ()), (0, 0, 0, 0, ()), (0, 0, 0, 0, ()), [((1, 1, 4, 1, ()), 1#64), ((1, 1, 0, 1, ()), 0#64)], ()) := by kernel_rfl
theorem shp_26 : shp 26 = ((0, 0, 0, 0, ()), (4, 1, 0, 0, ()), (2, 1, 0, 6, ()), (2, 1, 6, 2, ()), [((3, 1, 0, 0, ()), 0#64)], ()) := by kernel_rfl
theorem shp_90 : shp 90 = ((0, 0, 0, 0, ()), (7, 2, 0, 0, ()), (2, 1, 0, 6, ()), (2, 1, 6, 2, ()), [((3, 1, 0, 0, ()), 0#64)], ()) := by kernel_rfl
theorem shp_27 : shp 27 = ((0, 0, 0, 0, ()), (0, 0, 0, 0, ()), (0, 0, 0, 0, ()), (4, 1, 0, 2, ()), [((4, 1, 4, 4, ()), 0#64)], ()) := by kernel_rfl
theorem shp_30 : shp 30 = ((0, 0, 0, 0, ()), (0, 0, 0, 0, ()), (0, 0, 0, 0, ()), (4, 1, 0, 2, ()), [], ()) := by kernel_rfl
theorem shp_37 : shp 37 = ((0, 0, 0, 0, ()), (0, 0, 0, 0, ()), (0, 0, 0, 0, ()), (0, 0, 0, 0, ()), [((2, 4, 0, 0, ()), 0#64), ((8, 1, 0, 1, ()), 0#64)], ()) := by kernel_rfl
theorem shp_158 : shp 158 = ((0, 0, 0, 0, ()), (10, 4, 0, 0, ()), (0, 0, 0, 0, ()), (0, 0, 0, 0, ()), [((1, 1, 0, 5, ()), 16#64)], ()) := by kernel_rfl
theorem shp_160 : shp 160 = ((0, 0, 0, 0, ()), (6, 4, 0, 0, ()), (0, 0, 0, 0, ()), (0, 0, 0, 0, ()), [], ()) := by kernel_rfl
theorem get_none (b : BY) : getV (0, 0, 0, 0, ()) b = 0#64 := rfl
theorem ixT (b : BY) (n i : Nat) (h : i < n) (hn : n ≤ b.length) : ix (b.take n) (i : Int) = some (b.getD i 0#8) := by
  rw [ix_getD _ _ (by simp; omega), take_getD _ _ _ h]
theorem refBigT (b : BY) (n a w : Nat) (hb : b.length ≤ 140737488355328) (h1 : 1 ≤ w) (h2 : w ≤ 8) (h : a + w ≤ n) (hn : n ≤ b.length) : reticuleref06_big (b.take n, (a : Int), (w : Int)) = some (bigV b a w) := by
  rw [ref_big_eq _ _ _ (by simp; omega), bigV_take b n a w h1 h2 h hn]
theorem byteV (b : BY) (a : Nat) (h : a < b.length) : (bigV b (a : Int) 1).toNat = (b.getD a 0#8).toNat := by
  have := bigV_nat b a 1 (by omega) (by omega) (by omega)
  rw [show ((1 : Nat) : Int) = 1 from rfl] at this
  rw [this, bigN_one b a h]
theorem w64_byte (x : BitVec 8) : w64 (x.toNat : Int) = (x.toNat : Int) := w64_nat _ (by have := x.isLt; omega)
theorem oneV (b : BY) (a f n : Nat) (h : a < b.length) (h4 : 1 ≤ n) (h5 : f + n ≤ 8) : (getV ((a : Int), 1, (f : Int), (n : Int), ()) b).toNat = (b.getD a 0#8).toNat / 2 ^ f % 2 ^ n := by
  have := get_bits b a 1 f n (by omega) (by omega) (by omega) h4 (by omega)
  rw [show ((1 : Nat) : Int) = 1 from rfl] at this
  rw [this, bigN_one b a h]
/-- The document agrees on an op. -/
def Agree (op : Int) (n : Nat) (f : Int × BY → Option (Cmd × Bool)) : Prop :=
  ∀ b : BY, b.length ≤ 140737488355328 → n ≤ b.length → ∃ C k, f (op, b.take n) = some (C, k) ∧ (k = true ↔ (∀ q ∈ (shp op).2.2.2.2.1, getV q.1 b = q.2) ∧ fineB (fieldsC op b) b = true) ∧ (k = true → C = fieldsC op b)
theorem notB {x : Int} (h : x ∉ opsB) (b : BY) : fieldsC x b = (x, getV (shp x).1 b, w64 ((getV (shp x).2.1 b).toNat : Int), w64 ((getV (shp x).2.2.1 b).toNat : Int), w64 ((getV (shp x).2.2.2.1 b).toNat : Int), ()) := by
  unfold fieldsC; rw [if_neg (fun e => h e.2.1)]
theorem w64_zero : w64 ((0#64 : BitVec 64).toNat : Int) = 0 := by decide
theorem bigV_none (b : BY) : bigV b 0 0 = 0#64 := rfl
theorem p01 (x : Nat) : x / 2 ^ 0 % 2 ^ 1 = x % 2 := by omega
theorem p06 (x : Nat) : x / 2 ^ 0 % 2 ^ 6 = x % 64 := by omega
theorem p02 (x : Nat) : x / 2 ^ 0 % 2 ^ 2 = x % 4 := by omega
theorem p62 (x : Nat) : x / 2 ^ 6 % 2 ^ 2 = x / 64 % 4 := by omega
theorem w64_m2 (x : Nat) : w64 ((x % 2 : Nat) : Int) = ((x % 2 : Nat) : Int) := w64_nat _ (by omega)
theorem w64_m4 (x : Nat) : w64 ((x % 4 : Nat) : Int) = ((x % 4 : Nat) : Int) := w64_nat _ (by omega)
theorem w64_m64 (x : Nat) : w64 ((x % 64 : Nat) : Int) = ((x % 64 : Nat) : Int) := w64_nat _ (by omega)
theorem w64_d4 (x : Nat) : w64 ((x / 64 % 4 : Nat) : Int) = ((x / 64 % 4 : Nat) : Int) := w64_nat _ (by omega)
theorem d64 (x : BitVec 8) : x.toNat / 64 % 4 = x.toNat / 64 := by have := x.isLt; omega
theorem and_chain (a b : Bool) : (bif a then some b else some false : Option Bool) = some (a && b) := by cases a <;> rfl
theorem or_chain (a b : Bool) : (bif a then some true else some b : Option Bool) = some (a || b) := by cases a <;> rfl
theorem agree_3 : Agree 3 6 reticuleref06_rest := by
  intro b hb hn
  have i4 : ix (b.take 6) (4 : Int) = some (b.getD 4 0#8) := ixT b 6 4 (by omega) hn
  have i1 : ix (b.take 6) (1 : Int) = some (b.getD 1 0#8) := ixT b 6 1 (by omega) hn
  have h1 : (getV (1, 1, 0, 1, ()) b).toNat = (b.getD 1 0#8).toNat / 2 ^ 0 % 2 ^ 1 := oneV b 1 0 1 (by omega) (by omega) (by omega)
  have v4 : (bigV b 4 1).toNat = (b.getD 4 0#8).toNat := byteV b 4 (by omega)
  have f : fieldsC 3 b = (3, 0#64, ((b.getD 4 0#8).toNat : Int), 0, 0, ()) := by
    rw [notB (by decide), shp_3]
    simp only [get_whole, bigV_none, w64_zero, w64_byte, h1, v4, p01, p06, p62, p02, w64_m2, w64_m4, w64_m64, w64_d4]
  apply Exists.intro
  apply Exists.intro
  refine ⟨?_, ?_, fun _ => ?_⟩
  · simp only [reticuleref06_rest, Int.reduceEq, decide_false, decide_true, cond_true, cond_false, i4, i1, Option.bind_some, and_chain, or_chain, jn_inl]
    try rfl
  · rw [f, shp_3]
    have l1 := (b.getD 1 0#8).isLt; have l2 := (b.getD 2 0#8).isLt; have l3 := (b.getD 3 0#8).isLt; have l4 := (b.getD 4 0#8).isLt; have l8 := (b.getD 8 0#8).isLt
    simp only [List.mem_cons, List.not_mem_nil, or_false, false_imp_iff, implies_true, forall_eq_or_imp, forall_eq, fineB, Int.reduceEq, if_false, if_true, Bool.and_eq_true, Bool.or_eq_true, true_and, and_true, decide_eq_true_eq]
    try simp only [get_whole, bv_eq_iff, h1, v4, BitVec.toNat_umod, BitVec.toNat_udiv, BitVec.le_def, BitVec.lt_def, BitVec.toNat_ofNat, Nat.reducePow, Nat.reduceMod, Nat.div_one]
    try omega
  · rw [f]
    try simp only [BitVec.toNat_umod, BitVec.toNat_udiv, BitVec.toNat_ofNat, Nat.reducePow, Nat.reduceMod, d64]
theorem agree_18 : Agree 18 6 reticuleref06_rest := by
  intro b hb hn
  have i2 : ix (b.take 6) (2 : Int) = some (b.getD 2 0#8) := ixT b 6 2 (by omega) hn
  have i1 : ix (b.take 6) (1 : Int) = some (b.getD 1 0#8) := ixT b 6 1 (by omega) hn
  have g1 : reticuleref06_big (b.take 6, (3 : Int), (2 : Int)) = some (bigV b 3 2) := refBigT b 6 3 2 hb (by omega) (by omega) (by omega) hn
  have h1 : (getV (1, 1, 0, 1, ()) b).toNat = (b.getD 1 0#8).toNat / 2 ^ 0 % 2 ^ 1 := oneV b 1 0 1 (by omega) (by omega) (by omega)
  have v2 : (bigV b 2 1).toNat = (b.getD 2 0#8).toNat := byteV b 2 (by omega)
  have f : fieldsC 18 b = (18, 0#64, w64 ((bigV b 3 2).toNat : Int), ((b.getD 2 0#8).toNat : Int), (((b.getD 1 0#8).toNat % 2 : Nat) : Int), ()) := by
    rw [notB (by decide), shp_18]
    simp only [get_whole, bigV_none, w64_zero, w64_byte, h1, v2, p01, p06, p62, p02, w64_m2, w64_m4, w64_m64, w64_d4]
  apply Exists.intro
  apply Exists.intro
  refine ⟨?_, ?_, fun _ => ?_⟩
  · simp only [reticuleref06_rest, Int.reduceEq, decide_false, decide_true, cond_true, cond_false, i2, i1, g1, Option.bind_some, and_chain, or_chain, jn_inl]
    try rfl
  · rw [f, shp_18]
    have l1 := (b.getD 1 0#8).isLt; have l2 := (b.getD 2 0#8).isLt; have l3 := (b.getD 3 0#8).isLt; have l4 := (b.getD 4 0#8).isLt; have l8 := (b.getD 8 0#8).isLt
    simp only [List.mem_cons, List.not_mem_nil, or_false, false_imp_iff, implies_true, forall_eq_or_imp, forall_eq, fineB, Int.reduceEq, if_false, if_true, Bool.and_eq_true, Bool.or_eq_true, true_and, and_true, decide_eq_true_eq]
    try simp only [get_whole, bv_eq_iff, h1, v2, BitVec.toNat_umod, BitVec.toNat_udiv, BitVec.le_def, BitVec.lt_def, BitVec.toNat_ofNat, Nat.reducePow, Nat.reduceMod, Nat.div_one]
    try omega
  · rw [f]
    try simp only [BitVec.toNat_umod, BitVec.toNat_udiv, BitVec.toNat_ofNat, Nat.reducePow, Nat.reduceMod, d64]
theorem agree_21 : Agree 21 6 reticuleref06_rest := by
  intro b hb hn
  have i4 : ix (b.take 6) (4 : Int) = some (b.getD 4 0#8) := ixT b 6 4 (by omega) hn
  have i1 : ix (b.take 6) (1 : Int) = some (b.getD 1 0#8) := ixT b 6 1 (by omega) hn
  have h1 : (getV (1, 1, 4, 1, ()) b).toNat = (b.getD 1 0#8).toNat / 2 ^ 4 % 2 ^ 1 := oneV b 1 4 1 (by omega) (by omega) (by omega)
  have h2 : (getV (1, 1, 0, 1, ()) b).toNat = (b.getD 1 0#8).toNat / 2 ^ 0 % 2 ^ 1 := oneV b 1 0 1 (by omega) (by omega) (by omega)
  have v4 : (bigV b 4 1).toNat = (b.getD 4 0#8).toNat := byteV b 4 (by omega)
  have f : fieldsC 21 b = (21, 0#64, ((b.getD 4 0#8).toNat : Int), 0, 0, ()) := by
    rw [notB (by decide), shp_21]
    simp only [get_whole, bigV_none, w64_zero, w64_byte, h1, h2, v4, p01, p06, p62, p02, w64_m2, w64_m4, w64_m64, w64_d4]
  apply Exists.intro
  apply Exists.intro
  refine ⟨?_, ?_, fun _ => ?_⟩
  · simp only [reticuleref06_rest, Int.reduceEq, decide_false, decide_true, cond_true, cond_false, i4, i1, Option.bind_some, and_chain, or_chain, jn_inl]
    try rfl
  · rw [f, shp_21]
    have l1 := (b.getD 1 0#8).isLt; have l2 := (b.getD 2 0#8).isLt; have l3 := (b.getD 3 0#8).isLt; have l4 := (b.getD 4 0#8).isLt; have l8 := (b.getD 8 0#8).isLt
    simp only [List.mem_cons, List.not_mem_nil, or_false, false_imp_iff, implies_true, forall_eq_or_imp, forall_eq, fineB, Int.reduceEq, if_false, if_true, Bool.and_eq_true, Bool.or_eq_true, true_and, and_true, decide_eq_true_eq]
    try simp only [get_whole, bv_eq_iff, h1, h2, v4, BitVec.toNat_umod, BitVec.toNat_udiv, BitVec.le_def, BitVec.lt_def, BitVec.toNat_ofNat, Nat.reducePow, Nat.reduceMod, Nat.div_one]
    try omega
  · rw [f]
    try simp only [BitVec.toNat_umod, BitVec.toNat_udiv, BitVec.toNat_ofNat, Nat.reducePow, Nat.reduceMod, d64]
theorem agree_85 : Agree 85 10 reticuleref06_rest := by
  intro b hb hn
  have i1 : ix (b.take 10) (1 : Int) = some (b.getD 1 0#8) := ixT b 10 1 (by omega) hn
  have g1 : reticuleref06_big (b.take 10, (7 : Int), (2 : Int)) = some (bigV b 7 2) := refBigT b 10 7 2 hb (by omega) (by omega) (by omega) hn
  have h1 : (getV (1, 1, 4, 1, ()) b).toNat = (b.getD 1 0#8).toNat / 2 ^ 4 % 2 ^ 1 := oneV b 1 4 1 (by omega) (by omega) (by omega)
  have h2 : (getV (1, 1, 0, 1, ()) b).toNat = (b.getD 1 0#8).toNat / 2 ^ 0 % 2 ^ 1 := oneV b 1 0 1 (by omega) (by omega) (by omega)
  have f : fieldsC 85 b = (85, 0#64, w64 ((bigV b 7 2).toNat : Int), 0, 0, ()) := by
    rw [notB (by decide), shp_85]
    simp only [get_whole, bigV_none, w64_zero, w64_byte, h1, h2, p01, p06, p62, p02, w64_m2, w64_m4, w64_m64, w64_d4]
  apply Exists.intro
  apply Exists.intro
  refine ⟨?_, ?_, fun _ => ?_⟩
  · simp only [reticuleref06_rest, Int.reduceEq, decide_false, decide_true, cond_true, cond_false, i1, g1, Option.bind_some, and_chain, or_chain, jn_inl]
    try rfl
  · rw [f, shp_85]
    have l1 := (b.getD 1 0#8).isLt; have l2 := (b.getD 2 0#8).isLt; have l3 := (b.getD 3 0#8).isLt; have l4 := (b.getD 4 0#8).isLt; have l8 := (b.getD 8 0#8).isLt
    simp only [List.mem_cons, List.not_mem_nil, or_false, false_imp_iff, implies_true, forall_eq_or_imp, forall_eq, fineB, Int.reduceEq, if_false, if_true, Bool.and_eq_true, Bool.or_eq_true, true_and, and_true, decide_eq_true_eq]
    try simp only [get_whole, bv_eq_iff, h1, h2, BitVec.toNat_umod, BitVec.toNat_udiv, BitVec.le_def, BitVec.lt_def, BitVec.toNat_ofNat, Nat.reducePow, Nat.reduceMod, Nat.div_one]
    try omega
  · rw [f]
    try simp only [BitVec.toNat_umod, BitVec.toNat_udiv, BitVec.toNat_ofNat, Nat.reducePow, Nat.reduceMod, d64]
theorem agree_26 : Agree 26 6 reticuleref06_rest := by
  intro b hb hn
  have i4 : ix (b.take 6) (4 : Int) = some (b.getD 4 0#8) := ixT b 6 4 (by omega) hn
  have i2 : ix (b.take 6) (2 : Int) = some (b.getD 2 0#8) := ixT b 6 2 (by omega) hn
  have i3 : ix (b.take 6) (3 : Int) = some (b.getD 3 0#8) := ixT b 6 3 (by omega) hn
  have h1 : (getV (2, 1, 0, 6, ()) b).toNat = (b.getD 2 0#8).toNat / 2 ^ 0 % 2 ^ 6 := oneV b 2 0 6 (by omega) (by omega) (by omega)
  have h2 : (getV (2, 1, 6, 2, ()) b).toNat = (b.getD 2 0#8).toNat / 2 ^ 6 % 2 ^ 2 := oneV b 2 6 2 (by omega) (by omega) (by omega)
  have v4 : (bigV b 4 1).toNat = (b.getD 4 0#8).toNat := byteV b 4 (by omega)
  have v3 : (bigV b 3 1).toNat = (b.getD 3 0#8).toNat := byteV b 3 (by omega)
  have f : fieldsC 26 b = (26, 0#64, ((b.getD 4 0#8).toNat : Int), (((b.getD 2 0#8).toNat % 64 : Nat) : Int), (((b.getD 2 0#8).toNat / 64 % 4 : Nat) : Int), ()) := by
    rw [notB (by decide), shp_26]
    simp only [get_whole, bigV_none, w64_zero, w64_byte, h1, h2, v4, v3, p01, p06, p62, p02, w64_m2, w64_m4, w64_m64, w64_d4]
  apply Exists.intro
  apply Exists.intro
  refine ⟨?_, ?_, fun _ => ?_⟩
  · simp only [reticuleref06_rest, Int.reduceEq, decide_false, decide_true, cond_true, cond_false, i4, i2, i3, Option.bind_some, and_chain, or_chain, jn_inl]
    try rfl
  · rw [f, shp_26]
    have l1 := (b.getD 1 0#8).isLt; have l2 := (b.getD 2 0#8).isLt; have l3 := (b.getD 3 0#8).isLt; have l4 := (b.getD 4 0#8).isLt; have l8 := (b.getD 8 0#8).isLt
    simp only [List.mem_cons, List.not_mem_nil, or_false, false_imp_iff, implies_true, forall_eq_or_imp, forall_eq, fineB, Int.reduceEq, if_false, if_true, Bool.and_eq_true, Bool.or_eq_true, true_and, and_true, decide_eq_true_eq]
    try simp only [get_whole, bv_eq_iff, h1, h2, v4, v3, BitVec.toNat_umod, BitVec.toNat_udiv, BitVec.le_def, BitVec.lt_def, BitVec.toNat_ofNat, Nat.reducePow, Nat.reduceMod, Nat.div_one]
    try omega
  · rw [f]
    try simp only [BitVec.toNat_umod, BitVec.toNat_udiv, BitVec.toNat_ofNat, Nat.reducePow, Nat.reduceMod, d64]
theorem agree_90 : Agree 90 10 reticuleref06_rest := by
  intro b hb hn
  have i2 : ix (b.take 10) (2 : Int) = some (b.getD 2 0#8) := ixT b 10 2 (by omega) hn
  have i3 : ix (b.take 10) (3 : Int) = some (b.getD 3 0#8) := ixT b 10 3 (by omega) hn
  have g1 : reticuleref06_big (b.take 10, (7 : Int), (2 : Int)) = some (bigV b 7 2) := refBigT b 10 7 2 hb (by omega) (by omega) (by omega) hn
  have h1 : (getV (2, 1, 0, 6, ()) b).toNat = (b.getD 2 0#8).toNat / 2 ^ 0 % 2 ^ 6 := oneV b 2 0 6 (by omega) (by omega) (by omega)
  have h2 : (getV (2, 1, 6, 2, ()) b).toNat = (b.getD 2 0#8).toNat / 2 ^ 6 % 2 ^ 2 := oneV b 2 6 2 (by omega) (by omega) (by omega)
  have v3 : (bigV b 3 1).toNat = (b.getD 3 0#8).toNat := byteV b 3 (by omega)
  have f : fieldsC 90 b = (90, 0#64, w64 ((bigV b 7 2).toNat : Int), (((b.getD 2 0#8).toNat % 64 : Nat) : Int), (((b.getD 2 0#8).toNat / 64 % 4 : Nat) : Int), ()) := by
    rw [notB (by decide), shp_90]
    simp only [get_whole, bigV_none, w64_zero, w64_byte, h1, h2, v3, p01, p06, p62, p02, w64_m2, w64_m4, w64_m64, w64_d4]
  apply Exists.intro
  apply Exists.intro
  refine ⟨?_, ?_, fun _ => ?_⟩
  · simp only [reticuleref06_rest, Int.reduceEq, decide_false, decide_true, cond_true, cond_false, i2, i3, g1, Option.bind_some, and_chain, or_chain, jn_inl]
    try rfl
  · rw [f, shp_90]
    have l1 := (b.getD 1 0#8).isLt; have l2 := (b.getD 2 0#8).isLt; have l3 := (b.getD 3 0#8).isLt; have l4 := (b.getD 4 0#8).isLt; have l8 := (b.getD 8 0#8).isLt
    simp only [List.mem_cons, List.not_mem_nil, or_false, false_imp_iff, implies_true, forall_eq_or_imp, forall_eq, fineB, Int.reduceEq, if_false, if_true, Bool.and_eq_true, Bool.or_eq_true, true_and, and_true, decide_eq_true_eq]
    try simp only [get_whole, bv_eq_iff, h1, h2, v3, BitVec.toNat_umod, BitVec.toNat_udiv, BitVec.le_def, BitVec.lt_def, BitVec.toNat_ofNat, Nat.reducePow, Nat.reduceMod, Nat.div_one]
    try omega
  · rw [f]
    try simp only [BitVec.toNat_umod, BitVec.toNat_udiv, BitVec.toNat_ofNat, Nat.reducePow, Nat.reduceMod, d64]
theorem agree_27 : Agree 27 6 reticuleref06_rest := by
  intro b hb hn
  have i4 : ix (b.take 6) (4 : Int) = some (b.getD 4 0#8) := ixT b 6 4 (by omega) hn
  have h1 : (getV (4, 1, 0, 2, ()) b).toNat = (b.getD 4 0#8).toNat / 2 ^ 0 % 2 ^ 2 := oneV b 4 0 2 (by omega) (by omega) (by omega)
  have h2 : (getV (4, 1, 4, 4, ()) b).toNat = (b.getD 4 0#8).toNat / 2 ^ 4 % 2 ^ 4 := oneV b 4 4 4 (by omega) (by omega) (by omega)
  have f : fieldsC 27 b = (27, 0#64, 0, 0, (((b.getD 4 0#8).toNat % 4 : Nat) : Int), ()) := by
    rw [notB (by decide), shp_27]
    simp only [get_whole, bigV_none, w64_zero, w64_byte, h1, h2, p01, p06, p62, p02, w64_m2, w64_m4, w64_m64, w64_d4]
  apply Exists.intro
  apply Exists.intro
  refine ⟨?_, ?_, fun _ => ?_⟩
  · simp only [reticuleref06_rest, Int.reduceEq, decide_false, decide_true, cond_true, cond_false, i4, Option.bind_some, and_chain, or_chain, jn_inl]
    try rfl
  · rw [f, shp_27]
    have l1 := (b.getD 1 0#8).isLt; have l2 := (b.getD 2 0#8).isLt; have l3 := (b.getD 3 0#8).isLt; have l4 := (b.getD 4 0#8).isLt; have l8 := (b.getD 8 0#8).isLt
    simp only [List.mem_cons, List.not_mem_nil, or_false, false_imp_iff, implies_true, forall_eq_or_imp, forall_eq, fineB, Int.reduceEq, if_false, if_true, Bool.and_eq_true, Bool.or_eq_true, true_and, and_true, decide_eq_true_eq]
    try simp only [get_whole, bv_eq_iff, h1, h2, BitVec.toNat_umod, BitVec.toNat_udiv, BitVec.le_def, BitVec.lt_def, BitVec.toNat_ofNat, Nat.reducePow, Nat.reduceMod, Nat.div_one]
    try omega
  · rw [f]
    try simp only [BitVec.toNat_umod, BitVec.toNat_udiv, BitVec.toNat_ofNat, Nat.reducePow, Nat.reduceMod, d64]
theorem agree_30 : Agree 30 6 reticuleref06_rest := by
  intro b hb hn
  have i4 : ix (b.take 6) (4 : Int) = some (b.getD 4 0#8) := ixT b 6 4 (by omega) hn
  have h1 : (getV (4, 1, 0, 2, ()) b).toNat = (b.getD 4 0#8).toNat / 2 ^ 0 % 2 ^ 2 := oneV b 4 0 2 (by omega) (by omega) (by omega)
  have f : fieldsC 30 b = (30, 0#64, 0, 0, (((b.getD 4 0#8).toNat % 4 : Nat) : Int), ()) := by
    rw [notB (by decide), shp_30]
    simp only [get_whole, bigV_none, w64_zero, w64_byte, h1, p01, p06, p62, p02, w64_m2, w64_m4, w64_m64, w64_d4]
  apply Exists.intro
  apply Exists.intro
  refine ⟨?_, ?_, fun _ => ?_⟩
  · simp only [reticuleref06_rest, Int.reduceEq, decide_false, decide_true, cond_true, cond_false, i4, Option.bind_some, and_chain, or_chain, jn_inl]
    try rfl
  · rw [f, shp_30]
    have l1 := (b.getD 1 0#8).isLt; have l2 := (b.getD 2 0#8).isLt; have l3 := (b.getD 3 0#8).isLt; have l4 := (b.getD 4 0#8).isLt; have l8 := (b.getD 8 0#8).isLt
    simp only [List.mem_cons, List.not_mem_nil, or_false, false_imp_iff, implies_true, forall_eq_or_imp, forall_eq, fineB, Int.reduceEq, if_false, if_true, Bool.and_eq_true, Bool.or_eq_true, true_and, and_true, decide_eq_true_eq]
    try simp only [get_whole, bv_eq_iff, h1, BitVec.toNat_umod, BitVec.toNat_udiv, BitVec.le_def, BitVec.lt_def, BitVec.toNat_ofNat, Nat.reducePow, Nat.reduceMod, Nat.div_one]
    try omega
  · rw [f]
    try simp only [BitVec.toNat_umod, BitVec.toNat_udiv, BitVec.toNat_ofNat, Nat.reducePow, Nat.reduceMod, d64]
theorem agree_37 : Agree 37 10 reticuleref06_rest := by
  intro b hb hn
  have i8 : ix (b.take 10) (8 : Int) = some (b.getD 8 0#8) := ixT b 10 8 (by omega) hn
  have g1 : reticuleref06_big (b.take 10, (2 : Int), (4 : Int)) = some (bigV b 2 4) := refBigT b 10 2 4 hb (by omega) (by omega) (by omega) hn
  have h1 : (getV (8, 1, 0, 1, ()) b).toNat = (b.getD 8 0#8).toNat / 2 ^ 0 % 2 ^ 1 := oneV b 8 0 1 (by omega) (by omega) (by omega)
  have f : fieldsC 37 b = (37, 0#64, 0, 0, 0, ()) := by
    rw [notB (by decide), shp_37]
    simp only [get_whole, bigV_none, w64_zero, w64_byte, h1, p01, p06, p62, p02, w64_m2, w64_m4, w64_m64, w64_d4]
  apply Exists.intro
  apply Exists.intro
  refine ⟨?_, ?_, fun _ => ?_⟩
  · simp only [reticuleref06_rest, Int.reduceEq, decide_false, decide_true, cond_true, cond_false, i8, g1, Option.bind_some, and_chain, or_chain, jn_inl]
    try rfl
  · rw [f, shp_37]
    have l1 := (b.getD 1 0#8).isLt; have l2 := (b.getD 2 0#8).isLt; have l3 := (b.getD 3 0#8).isLt; have l4 := (b.getD 4 0#8).isLt; have l8 := (b.getD 8 0#8).isLt
    simp only [List.mem_cons, List.not_mem_nil, or_false, false_imp_iff, implies_true, forall_eq_or_imp, forall_eq, fineB, Int.reduceEq, if_false, if_true, Bool.and_eq_true, Bool.or_eq_true, true_and, and_true, decide_eq_true_eq]
    try simp only [get_whole, bv_eq_iff, h1, BitVec.toNat_umod, BitVec.toNat_udiv, BitVec.le_def, BitVec.lt_def, BitVec.toNat_ofNat, Nat.reducePow, Nat.reduceMod, Nat.div_one]
    try omega
  · rw [f]
    try simp only [BitVec.toNat_umod, BitVec.toNat_udiv, BitVec.toNat_ofNat, Nat.reducePow, Nat.reduceMod, d64]
theorem agree_158 : Agree 158 16 reticuleref06_rest := by
  intro b hb hn
  have i1 : ix (b.take 16) (1 : Int) = some (b.getD 1 0#8) := ixT b 16 1 (by omega) hn
  have g1 : reticuleref06_big (b.take 16, (10 : Int), (4 : Int)) = some (bigV b 10 4) := refBigT b 16 10 4 hb (by omega) (by omega) (by omega) hn
  have h1 : (getV (1, 1, 0, 5, ()) b).toNat = (b.getD 1 0#8).toNat / 2 ^ 0 % 2 ^ 5 := oneV b 1 0 5 (by omega) (by omega) (by omega)
  have f : fieldsC 158 b = (158, 0#64, w64 ((bigV b 10 4).toNat : Int), 0, 0, ()) := by
    rw [notB (by decide), shp_158]
    simp only [get_whole, bigV_none, w64_zero, w64_byte, h1, p01, p06, p62, p02, w64_m2, w64_m4, w64_m64, w64_d4]
  apply Exists.intro
  apply Exists.intro
  refine ⟨?_, ?_, fun _ => ?_⟩
  · simp only [reticuleref06_rest, Int.reduceEq, decide_false, decide_true, cond_true, cond_false, i1, g1, Option.bind_some, and_chain, or_chain, jn_inl]
    try rfl
  · rw [f, shp_158]
    have l1 := (b.getD 1 0#8).isLt; have l2 := (b.getD 2 0#8).isLt; have l3 := (b.getD 3 0#8).isLt; have l4 := (b.getD 4 0#8).isLt; have l8 := (b.getD 8 0#8).isLt
    simp only [List.mem_cons, List.not_mem_nil, or_false, false_imp_iff, implies_true, forall_eq_or_imp, forall_eq, fineB, Int.reduceEq, if_false, if_true, Bool.and_eq_true, Bool.or_eq_true, true_and, and_true, decide_eq_true_eq]
    try simp only [get_whole, bv_eq_iff, h1, BitVec.toNat_umod, BitVec.toNat_udiv, BitVec.le_def, BitVec.lt_def, BitVec.toNat_ofNat, Nat.reducePow, Nat.reduceMod, Nat.div_one]
    try omega
  · rw [f]
    try simp only [BitVec.toNat_umod, BitVec.toNat_udiv, BitVec.toNat_ofNat, Nat.reducePow, Nat.reduceMod, d64]
theorem agree_160 : Agree 160 12 reticuleref06_rest := by
  intro b hb hn
  have i2 : ix (b.take 12) (2 : Int) = some (b.getD 2 0#8) := ixT b 12 2 (by omega) hn
  have g1 : reticuleref06_big (b.take 12, (6 : Int), (4 : Int)) = some (bigV b 6 4) := refBigT b 12 6 4 hb (by omega) (by omega) (by omega) hn
  have f : fieldsC 160 b = (160, 0#64, w64 ((bigV b 6 4).toNat : Int), 0, 0, ()) := by
    rw [notB (by decide), shp_160]
    simp only [get_whole, bigV_none, w64_zero, w64_byte, p01, p06, p62, p02, w64_m2, w64_m4, w64_m64, w64_d4]
  apply Exists.intro
  apply Exists.intro
  refine ⟨?_, ?_, fun _ => ?_⟩
  · simp only [reticuleref06_rest, Int.reduceEq, decide_false, decide_true, cond_true, cond_false, i2, g1, Option.bind_some, and_chain, or_chain, jn_inl]
    try rfl
  · rw [f, shp_160]
    have l1 := (b.getD 1 0#8).isLt; have l2 := (b.getD 2 0#8).isLt; have l3 := (b.getD 3 0#8).isLt; have l4 := (b.getD 4 0#8).isLt; have l8 := (b.getD 8 0#8).isLt
    simp only [List.mem_cons, List.not_mem_nil, or_false, false_imp_iff, implies_true, forall_eq_or_imp, forall_eq, fineB, Int.reduceEq, if_false, if_true, Bool.and_eq_true, Bool.or_eq_true, true_and, and_true, decide_eq_true_eq]
    try simp only [get_whole, bv_eq_iff, BitVec.toNat_umod, BitVec.toNat_udiv, BitVec.le_def, BitVec.lt_def, BitVec.toNat_ofNat, Nat.reducePow, Nat.reduceMod, Nat.div_one]
    try omega
  · rw [f]
    try simp only [BitVec.toNat_umod, BitVec.toNat_udiv, BitVec.toNat_ofNat, Nat.reducePow, Nat.reduceMod, d64]
theorem agree_0 : Agree 0 6 reticuleref06_rest := by
  intro b hb hn
  have f : fieldsC 0 b = (0, 0#64, 0, 0, 0, ()) := by
    rw [notB (by decide), shp_0]
    simp only [get_whole, bigV_none, w64_zero, w64_byte, p01, p06, p62, p02, w64_m2, w64_m4, w64_m64, w64_d4]
  apply Exists.intro
  apply Exists.intro
  refine ⟨?_, ?_, fun _ => ?_⟩
  · simp only [reticuleref06_rest, Int.reduceEq, decide_false, decide_true, cond_true, cond_false, Option.bind_some, and_chain, or_chain, jn_inl]
    try rfl
  · rw [f, shp_0]
    have l1 := (b.getD 1 0#8).isLt; have l2 := (b.getD 2 0#8).isLt; have l3 := (b.getD 3 0#8).isLt; have l4 := (b.getD 4 0#8).isLt; have l8 := (b.getD 8 0#8).isLt
    simp only [List.mem_cons, List.not_mem_nil, or_false, false_imp_iff, implies_true, forall_eq_or_imp, forall_eq, fineB, Int.reduceEq, if_false, if_true, Bool.and_eq_true, Bool.or_eq_true, true_and, and_true, decide_eq_true_eq]
    try simp only [get_whole, bv_eq_iff, BitVec.toNat_umod, BitVec.toNat_udiv, BitVec.le_def, BitVec.lt_def, BitVec.toNat_ofNat, Nat.reducePow, Nat.reduceMod, Nat.div_one]
    try omega
  · rw [f]
    try simp only [BitVec.toNat_umod, BitVec.toNat_udiv, BitVec.toNat_ofNat, Nat.reducePow, Nat.reduceMod, d64]

end Cdb
end Go.Proofs.Ytnhmeldgpgidiaa
/- Plain laws of chapter 6: any bytes are parsed alike: commands that go by blocks. -/
namespace Go.Proofs.Ytnhmeldgpgidiaa
open Go Go.Re
set_option linter.unusedVariables false
set_option linter.unusedSimpArgs false
namespace Cdb

theorem rest_blocks (op : Int) (h : op ∈ opsB) (b : BY) : ∃ C k, reticuleref06_rest (op, b) = some (C, k) := by
  simp only [opsB, List.mem_cons, List.not_mem_nil, or_false] at h
  rcases h with rfl | rfl | rfl | rfl | rfl | rfl | rfl | rfl | rfl | rfl | rfl | rfl | rfl <;>
    (simp only [reticuleref06_rest, Int.reduceEq, decide_false, cond_false, jn_inl]; exact ⟨_, _, rfl⟩)
theorem six_at (b : BY) (h : 4 ≤ b.length) : getV (1, 3, 0, 21, ()) b = ((((b.getD 1 0#8 % 32#8).setWidth 64) * 65536#64) + ((b.getD 2 0#8).setWidth 64 * 256#64)) + (b.getD 3 0#8).setWidth 64 := by
  have := get_bits b 1 3 0 21 (by omega) (by omega) (by omega) (by omega) (by omega)
  simp only [show ((1 : Nat) : Int) = 1 from rfl, show ((3 : Nat) : Int) = 3 from rfl, show ((0 : Nat) : Int) = 0 from rfl, show ((21 : Nat) : Int) = 21 from rfl] at this
  apply BitVec.eq_of_toNat_eq
  rw [this, bigN_succ b 1 2 (by omega), bigN_succ b 1 1 (by omega), bigN_one b 1 (by omega)]
  have h1 := (b.getD 1 0#8).isLt
  have h2 := (b.getD 2 0#8).isLt
  have h3 := (b.getD 3 0#8).isLt
  simp only [BitVec.toNat_add, BitVec.toNat_mul, BitVec.toNat_setWidth, BitVec.toNat_umod, BitVec.toNat_ofNat, Nat.reduceAdd, Nat.reducePow, Nat.reduceMod]
  omega
theorem isB {x : Int} (h : x ∈ opsB) (h6 : sizeI x = 6) (b : BY) : fieldsC x b = (x, getV (shp x).1 b, if w64 ((getV (shp x).2.1 b).toNat : Int) = 0 then 256 else w64 ((getV (shp x).2.1 b).toNat : Int), w64 ((getV (shp x).2.2.1 b).toNat : Int), w64 ((getV (shp x).2.2.2.1 b).toNat : Int), ()) := by
  unfold fieldsC; simp only [h, h6, true_and]
theorem isB' {x : Int} (h6 : sizeI x ≠ 6) (b : BY) : fieldsC x b = (x, getV (shp x).1 b, w64 ((getV (shp x).2.1 b).toNat : Int), w64 ((getV (shp x).2.2.1 b).toNat : Int), w64 ((getV (shp x).2.2.2.1 b).toNat : Int), ()) := by
  unfold fieldsC; rw [if_neg (fun e => h6 e.1)]
theorem six_n (X : Int) (A : BitVec 64) (o : Int) : (bif decide (X = 0) then some (Sum.inl (((0, 0#64, 0, 0, 0, ()) : Cmd), ((o, A, 256, 0, 0, ()) : Cmd))) else some (Sum.inl (((0, 0#64, 0, 0, 0, ()) : Cmd), ((o, A, X, 0, 0, ()) : Cmd))) : Option ((Cmd × Cmd) ⊕ (Cmd × Bool))) =
    some (Sum.inl ((0, 0#64, 0, 0, 0, ()), (o, A, if X = 0 then 256 else X, 0, 0, ()))) := by
  by_cases h : X = 0 <;> simp [h]
theorem agree_8 : Agree 8 6 reticuleref06_blocks := by
  intro b hb hn
  have hl : (((b.take 6).length : Nat) : Int) = 6 := by rw [List.length_take, Nat.min_eq_left hn]; rfl
  have i1 : ix (b.take 6) (1 : Int) = some (b.getD 1 0#8) := ixT b 6 1 (by omega) hn
  have i2 : ix (b.take 6) (2 : Int) = some (b.getD 2 0#8) := ixT b 6 2 (by omega) hn
  have i3 : ix (b.take 6) (3 : Int) = some (b.getD 3 0#8) := ixT b 6 3 (by omega) hn
  have i4 : ix (b.take 6) (4 : Int) = some (b.getD 4 0#8) := ixT b 6 4 (by omega) hn
  have v4 : (bigV b 4 1).toNat = (b.getD 4 0#8).toNat := byteV b 4 (by omega)
  have f : fieldsC 8 b = (8, ((((b.getD 1 0#8 % 32#8).setWidth 64) * 65536#64) + ((b.getD 2 0#8).setWidth 64 * 256#64)) + (b.getD 3 0#8).setWidth 64, if ((b.getD 4 0#8).toNat : Int) = 0 then 256 else ((b.getD 4 0#8).toNat : Int), 0, 0, ()) := by
    rw [isB (by decide) (by decide +kernel), shp_8]
    simp only [get_whole, bigV_none, w64_zero, w64_byte, v4, six_at b (by omega)]
  apply Exists.intro
  apply Exists.intro
  refine ⟨?_, ?_, fun _ => ?_⟩
  · simp only [reticuleref06_blocks, (cls_eq _).2, show clsI 8 = 1 from by decide, hl, Int.reduceEq, decide_false, decide_true, cond_true, cond_false, i1, i2, i3, i4, Option.bind_some, and_chain, or_chain, jn_inl, Bool.not_true, Bool.not_false, Bool.or_true, Bool.or_false]
    rw [six_n, jn_inl]
  · rw [f, shp_8]
    have l1 := (b.getD 1 0#8).isLt
    simp only [List.mem_cons, List.not_mem_nil, or_false, false_imp_iff, implies_true, forall_eq_or_imp, forall_eq, fineB, Int.reduceEq, if_false, if_true, Bool.and_eq_true, Bool.or_eq_true, true_and, and_true, decide_eq_true_eq]
    try omega
  · rw [f]
    try simp only [BitVec.toNat_umod, BitVec.toNat_udiv, BitVec.toNat_ofNat, Nat.reducePow, Nat.reduceMod]
theorem agree_40 : Agree 40 10 reticuleref06_blocks := by
  intro b hb hn
  have hl : (((b.take 10).length : Nat) : Int) = 10 := by rw [List.length_take, Nat.min_eq_left hn]; rfl
  have i1 : ix (b.take 10) (1 : Int) = some (b.getD 1 0#8) := ixT b 10 1 (by omega) hn
  have g1 : reticuleref06_big (b.take 10, (2 : Int), (4 : Int)) = some (bigV b 2 4) := refBigT b 10 2 4 hb (by omega) (by omega) (by omega) hn
  have g2 : reticuleref06_big (b.take 10, (7 : Int), (2 : Int)) = some (bigV b 7 2) := refBigT b 10 7 2 hb (by omega) (by omega) (by omega) hn
  have h1 : (getV (1, 1, 3, 1, ()) b).toNat = (b.getD 1 0#8).toNat / 2 ^ 3 % 2 ^ 1 := oneV b 1 3 1 (by omega) (by omega) (by omega)
  have h2 : (getV (1, 1, 1, 1, ()) b).toNat = (b.getD 1 0#8).toNat / 2 ^ 1 % 2 ^ 1 := oneV b 1 1 1 (by omega) (by omega) (by omega)
  have h3 : (getV (1, 1, 2, 1, ()) b).toNat = (b.getD 1 0#8).toNat / 2 ^ 2 % 2 ^ 1 := oneV b 1 2 1 (by omega) (by omega) (by omega)
  have f : fieldsC 40 b = (40, bigV b 2 4, w64 ((bigV b 7 2).toNat : Int), 0, (((b.getD 1 0#8).toNat / 8 % 2 : Nat) : Int), ()) := by
    rw [isB' (by decide +kernel), shp_40]
    simp only [get_whole, bigV_none, w64_zero, w64_byte, h1, h2, h3, w64_m2, Nat.reducePow]
  apply Exists.intro
  apply Exists.intro
  refine ⟨?_, ?_, fun _ => ?_⟩
  · simp only [reticuleref06_blocks, (cls_eq _).2, show clsI 40 = 1 from by decide, hl, Int.reduceEq, decide_false, decide_true, cond_true, cond_false, i1, g1, g2, Option.bind_some, and_chain, or_chain, jn_inl, Bool.not_true, Bool.not_false, Bool.or_true, Bool.or_false]
    try rfl
  · rw [f, shp_40]
    have l1 := (b.getD 1 0#8).isLt
    simp only [List.mem_cons, List.not_mem_nil, or_false, false_imp_iff, implies_true, forall_eq_or_imp, forall_eq, fineB, Int.reduceEq, if_false, if_true, Bool.and_eq_true, Bool.or_eq_true, true_and, and_true, decide_eq_true_eq]
    try simp only [get_whole, bv_eq_iff, h1, h2, h3, BitVec.toNat_umod, BitVec.toNat_udiv, BitVec.toNat_ofNat, Nat.reducePow, Nat.reduceMod]
    try omega
  · rw [f]
    try simp only [BitVec.toNat_umod, BitVec.toNat_udiv, BitVec.toNat_ofNat, Nat.reducePow, Nat.reduceMod]
theorem agree_168 : Agree 168 12 reticuleref06_blocks := by
  intro b hb hn
  have hl : (((b.take 12).length : Nat) : Int) = 12 := by rw [List.length_take, Nat.min_eq_left hn]; rfl
  have i1 : ix (b.take 12) (1 : Int) = some (b.getD 1 0#8) := ixT b 12 1 (by omega) hn
  have g1 : reticuleref06_big (b.take 12, (2 : Int), (4 : Int)) = some (bigV b 2 4) := refBigT b 12 2 4 hb (by omega) (by omega) (by omega) hn
  have g2 : reticuleref06_big (b.take 12, (6 : Int), (4 : Int)) = some (bigV b 6 4) := refBigT b 12 6 4 hb (by omega) (by omega) (by omega) hn
  have h1 : (getV (1, 1, 3, 1, ()) b).toNat = (b.getD 1 0#8).toNat / 2 ^ 3 % 2 ^ 1 := oneV b 1 3 1 (by omega) (by omega) (by omega)
  have h2 : (getV (1, 1, 1, 1, ()) b).toNat = (b.getD 1 0#8).toNat / 2 ^ 1 % 2 ^ 1 := oneV b 1 1 1 (by omega) (by omega) (by omega)
  have h3 : (getV (1, 1, 2, 1, ()) b).toNat = (b.getD 1 0#8).toNat / 2 ^ 2 % 2 ^ 1 := oneV b 1 2 1 (by omega) (by omega) (by omega)
  have f : fieldsC 168 b = (168, bigV b 2 4, w64 ((bigV b 6 4).toNat : Int), 0, (((b.getD 1 0#8).toNat / 8 % 2 : Nat) : Int), ()) := by
    rw [isB' (by decide +kernel), shp_168]
    simp only [get_whole, bigV_none, w64_zero, w64_byte, h1, h2, h3, w64_m2, Nat.reducePow]
  apply Exists.intro
  apply Exists.intro
  refine ⟨?_, ?_, fun _ => ?_⟩
  · simp only [reticuleref06_blocks, (cls_eq _).2, show clsI 168 = 1 from by decide, hl, Int.reduceEq, decide_false, decide_true, cond_true, cond_false, i1, g1, g2, Option.bind_some, and_chain, or_chain, jn_inl, Bool.not_true, Bool.not_false, Bool.or_true, Bool.or_false]
    try rfl
  · rw [f, shp_168]
    have l1 := (b.getD 1 0#8).isLt
    simp only [List.mem_cons, List.not_mem_nil, or_false, false_imp_iff, implies_true, forall_eq_or_imp, forall_eq, fineB, Int.reduceEq, if_false, if_true, Bool.and_eq_true, Bool.or_eq_true, true_and, and_true, decide_eq_true_eq]
    try simp only [get_whole, bv_eq_iff, h1, h2, h3, BitVec.toNat_umod, BitVec.toNat_udiv, BitVec.toNat_ofNat, Nat.reducePow, Nat.reduceMod]
    try omega
  · rw [f]
    try simp only [BitVec.toNat_umod, BitVec.toNat_udiv, BitVec.toNat_ofNat, Nat.reducePow, Nat.reduceMod]
theorem agree_136 : Agree 136 16 reticuleref06_blocks := by
  intro b hb hn
  have hl : (((b.take 16).length : Nat) : Int) = 16 := by rw [List.length_take, Nat.min_eq_left hn]; rfl
  have i1 : ix (b.take 16) (1 : Int) = some (b.getD 1 0#8) := ixT b 16 1 (by omega) hn
  have g1 : reticuleref06_big (b.take 16, (2 : Int), (8 : Int)) = some (bigV b 2 8) := refBigT b 16 2 8 hb (by omega) (by omega) (by omega) hn
  have g2 : reticuleref06_big (b.take 16, (10 : Int), (4 : Int)) = some (bigV b 10 4) := refBigT b 16 10 4 hb (by omega) (by omega) (by omega) hn
  have h1 : (getV (1, 1, 3, 1, ()) b).toNat = (b.getD 1 0#8).toNat / 2 ^ 3 % 2 ^ 1 := oneV b 1 3 1 (by omega) (by omega) (by omega)
  have h2 : (getV (1, 1, 1, 1, ()) b).toNat = (b.getD 1 0#8).toNat / 2 ^ 1 % 2 ^ 1 := oneV b 1 1 1 (by omega) (by omega) (by omega)
  have h3 : (getV (1, 1, 2, 1, ()) b).toNat = (b.getD 1 0#8).toNat / 2 ^ 2 % 2 ^ 1 := oneV b 1 2 1 (by omega) (by omega) (by omega)
  have f : fieldsC 136 b = (136, bigV b 2 8, w64 ((bigV b 10 4).toNat : Int), 0, (((b.getD 1 0#8).toNat / 8 % 2 : Nat) : Int), ()) := by
    rw [isB' (by decide +kernel), shp_136]
    simp only [get_whole, bigV_none, w64_zero, w64_byte, h1, h2, h3, w64_m2, Nat.reducePow]
  apply Exists.intro
  apply Exists.intro
  refine ⟨?_, ?_, fun _ => ?_⟩
  · simp only [reticuleref06_blocks, (cls_eq _).2, show clsI 136 = 1 from by decide, hl, Int.reduceEq, decide_false, decide_true, cond_true, cond_false, i1, g1, g2, Option.bind_some, and_chain, or_chain, jn_inl, Bool.not_true, Bool.not_false, Bool.or_true, Bool.or_false]
    try rfl
  · rw [f, shp_136]
    have l1 := (b.getD 1 0#8).isLt
    simp only [List.mem_cons, List.not_mem_nil, or_false, false_imp_iff, implies_true, forall_eq_or_imp, forall_eq, fineB, Int.reduceEq, if_false, if_true, Bool.and_eq_true, Bool.or_eq_true, true_and, and_true, decide_eq_true_eq]
    try simp only [get_whole, bv_eq_iff, h1, h2, h3, BitVec.toNat_umod, BitVec.toNat_udiv, BitVec.toNat_ofNat, Nat.reducePow, Nat.reduceMod]
    try omega
  · rw [f]
    try simp only [BitVec.toNat_umod, BitVec.toNat_udiv, BitVec.toNat_ofNat, Nat.reducePow, Nat.reduceMod]
theorem agree_10 : Agree 10 6 reticuleref06_blocks := by
  intro b hb hn
  have hl : (((b.take 6).length : Nat) : Int) = 6 := by rw [List.length_take, Nat.min_eq_left hn]; rfl
  have i1 : ix (b.take 6) (1 : Int) = some (b.getD 1 0#8) := ixT b 6 1 (by omega) hn
  have i2 : ix (b.take 6) (2 : Int) = some (b.getD 2 0#8) := ixT b 6 2 (by omega) hn
  have i3 : ix (b.take 6) (3 : Int) = some (b.getD 3 0#8) := ixT b 6 3 (by omega) hn
  have i4 : ix (b.take 6) (4 : Int) = some (b.getD 4 0#8) := ixT b 6 4 (by omega) hn
  have v4 : (bigV b 4 1).toNat = (b.getD 4 0#8).toNat := byteV b 4 (by omega)
  have f : fieldsC 10 b = (10, ((((b.getD 1 0#8 % 32#8).setWidth 64) * 65536#64) + ((b.getD 2 0#8).setWidth 64 * 256#64)) + (b.getD 3 0#8).setWidth 64, if ((b.getD 4 0#8).toNat : Int) = 0 then 256 else ((b.getD 4 0#8).toNat : Int), 0, 0, ()) := by
    rw [isB (by decide) (by decide +kernel), shp_10]
    simp only [get_whole, bigV_none, w64_zero, w64_byte, v4, six_at b (by omega)]
  apply Exists.intro
  apply Exists.intro
  refine ⟨?_, ?_, fun _ => ?_⟩
  · simp only [reticuleref06_blocks, (cls_eq _).2, show clsI 10 = 2 from by decide, hl, Int.reduceEq, decide_false, decide_true, cond_true, cond_false, i1, i2, i3, i4, Option.bind_some, and_chain, or_chain, jn_inl, Bool.not_true, Bool.not_false, Bool.or_true, Bool.or_false]
    rw [six_n, jn_inl]
  · rw [f, shp_10]
    have l1 := (b.getD 1 0#8).isLt
    simp only [List.mem_cons, List.not_mem_nil, or_false, false_imp_iff, implies_true, forall_eq_or_imp, forall_eq, fineB, Int.reduceEq, if_false, if_true, Bool.and_eq_true, Bool.or_eq_true, true_and, and_true, decide_eq_true_eq]
    try omega
  · rw [f]
    try simp only [BitVec.toNat_umod, BitVec.toNat_udiv, BitVec.toNat_ofNat, Nat.reducePow, Nat.reduceMod]
theorem agree_42 : Agree 42 10 reticuleref06_blocks := by
  intro b hb hn
  have hl : (((b.take 10).length : Nat) : Int) = 10 := by rw [List.length_take, Nat.min_eq_left hn]; rfl
  have i1 : ix (b.take 10) (1 : Int) = some (b.getD 1 0#8) := ixT b 10 1 (by omega) hn
  have g1 : reticuleref06_big (b.take 10, (2 : Int), (4 : Int)) = some (bigV b 2 4) := refBigT b 10 2 4 hb (by omega) (by omega) (by omega) hn
  have g2 : reticuleref06_big (b.take 10, (7 : Int), (2 : Int)) = some (bigV b 7 2) := refBigT b 10 7 2 hb (by omega) (by omega) (by omega) hn
  have h1 : (getV (1, 1, 3, 1, ()) b).toNat = (b.getD 1 0#8).toNat / 2 ^ 3 % 2 ^ 1 := oneV b 1 3 1 (by omega) (by omega) (by omega)
  have h2 : (getV (1, 1, 1, 1, ()) b).toNat = (b.getD 1 0#8).toNat / 2 ^ 1 % 2 ^ 1 := oneV b 1 1 1 (by omega) (by omega) (by omega)
  have h3 : (getV (1, 1, 2, 1, ()) b).toNat = (b.getD 1 0#8).toNat / 2 ^ 2 % 2 ^ 1 := oneV b 1 2 1 (by omega) (by omega) (by omega)
  have f : fieldsC 42 b = (42, bigV b 2 4, w64 ((bigV b 7 2).toNat : Int), 0, (((b.getD 1 0#8).toNat / 8 % 2 : Nat) : Int), ()) := by
    rw [isB' (by decide +kernel), shp_42]
    simp only [get_whole, bigV_none, w64_zero, w64_byte, h1, h2, h3, w64_m2, Nat.reducePow]
  apply Exists.intro
  apply Exists.intro
  refine ⟨?_, ?_, fun _ => ?_⟩
  · simp only [reticuleref06_blocks, (cls_eq _).2, show clsI 42 = 2 from by decide, hl, Int.reduceEq, decide_false, decide_true, cond_true, cond_false, i1, g1, g2, Option.bind_some, and_chain, or_chain, jn_inl, Bool.not_true, Bool.not_false, Bool.or_true, Bool.or_false]
    try rfl
  · rw [f, shp_42]
    have l1 := (b.getD 1 0#8).isLt
    simp only [List.mem_cons, List.not_mem_nil, or_false, false_imp_iff, implies_true, forall_eq_or_imp, forall_eq, fineB, Int.reduceEq, if_false, if_true, Bool.and_eq_true, Bool.or_eq_true, true_and, and_true, decide_eq_true_eq]
    try simp only [get_whole, bv_eq_iff, h1, h2, h3, BitVec.toNat_umod, BitVec.toNat_udiv, BitVec.toNat_ofNat, Nat.reducePow, Nat.reduceMod]
    try omega
  · rw [f]
    try simp only [BitVec.toNat_umod, BitVec.toNat_udiv, BitVec.toNat_ofNat, Nat.reducePow, Nat.reduceMod]
theorem agree_170 : Agree 170 12 reticuleref06_blocks := by
  intro b hb hn
  have hl : (((b.take 12).length : Nat) : Int) = 12 := by rw [List.length_take, Nat.min_eq_left hn]; rfl
  have i1 : ix (b.take 12) (1 : Int) = some (b.getD 1 0#8) := ixT b 12 1 (by omega) hn
  have g1 : reticuleref06_big (b.take 12, (2 : Int), (4 : Int)) = some (bigV b 2 4) := refBigT b 12 2 4 hb (by omega) (by omega) (by omega) hn
  have g2 : reticuleref06_big (b.take 12, (6 : Int), (4 : Int)) = some (bigV b 6 4) := refBigT b 12 6 4 hb (by omega) (by omega) (by omega) hn
  have h1 : (getV (1, 1, 3, 1, ()) b).toNat = (b.getD 1 0#8).toNat / 2 ^ 3 % 2 ^ 1 := oneV b 1 3 1 (by omega) (by omega) (by omega)
  have h2 : (getV (1, 1, 1, 1, ()) b).toNat = (b.getD 1 0#8).toNat / 2 ^ 1 % 2 ^ 1 := oneV b 1 1 1 (by omega) (by omega) (by omega)
  have h3 : (getV (1, 1, 2, 1, ()) b).toNat = (b.getD 1 0#8).toNat / 2 ^ 2 % 2 ^ 1 := oneV b 1 2 1 (by omega) (by omega) (by omega)
  have f : fieldsC 170 b = (170, bigV b 2 4, w64 ((bigV b 6 4).toNat : Int), 0, (((b.getD 1 0#8).toNat / 8 % 2 : Nat) : Int), ()) := by
    rw [isB' (by decide +kernel), shp_170]
    simp only [get_whole, bigV_none, w64_zero, w64_byte, h1, h2, h3, w64_m2, Nat.reducePow]
  apply Exists.intro
  apply Exists.intro
  refine ⟨?_, ?_, fun _ => ?_⟩
  · simp only [reticuleref06_blocks, (cls_eq _).2, show clsI 170 = 2 from by decide, hl, Int.reduceEq, decide_false, decide_true, cond_true, cond_false, i1, g1, g2, Option.bind_some, and_chain, or_chain, jn_inl, Bool.not_true, Bool.not_false, Bool.or_true, Bool.or_false]
    try rfl
  · rw [f, shp_170]
    have l1 := (b.getD 1 0#8).isLt
    simp only [List.mem_cons, List.not_mem_nil, or_false, false_imp_iff, implies_true, forall_eq_or_imp, forall_eq, fineB, Int.reduceEq, if_false, if_true, Bool.and_eq_true, Bool.or_eq_true, true_and, and_true, decide_eq_true_eq]
    try simp only [get_whole, bv_eq_iff, h1, h2, h3, BitVec.toNat_umod, BitVec.toNat_udiv, BitVec.toNat_ofNat, Nat.reducePow, Nat.reduceMod]
    try omega
  · rw [f]
    try simp only [BitVec.toNat_umod, BitVec.toNat_udiv, BitVec.toNat_ofNat, Nat.reducePow, Nat.reduceMod]
theorem agree_138 : Agree 138 16 reticuleref06_blocks := by
  intro b hb hn
  have hl : (((b.take 16).length : Nat) : Int) = 16 := by rw [List.length_take, Nat.min_eq_left hn]; rfl
  have i1 : ix (b.take 16) (1 : Int) = some (b.getD 1 0#8) := ixT b 16 1 (by omega) hn
  have g1 : reticuleref06_big (b.take 16, (2 : Int), (8 : Int)) = some (bigV b 2 8) := refBigT b 16 2 8 hb (by omega) (by omega) (by omega) hn
  have g2 : reticuleref06_big (b.take 16, (10 : Int), (4 : Int)) = some (bigV b 10 4) := refBigT b 16 10 4 hb (by omega) (by omega) (by omega) hn
  have h1 : (getV (1, 1, 3, 1, ()) b).toNat = (b.getD 1 0#8).toNat / 2 ^ 3 % 2 ^ 1 := oneV b 1 3 1 (by omega) (by omega) (by omega)
  have h2 : (getV (1, 1, 1, 1, ()) b).toNat = (b.getD 1 0#8).toNat / 2 ^ 1 % 2 ^ 1 := oneV b 1 1 1 (by omega) (by omega) (by omega)
  have h3 : (getV (1, 1, 2, 1, ()) b).toNat = (b.getD 1 0#8).toNat / 2 ^ 2 % 2 ^ 1 := oneV b 1 2 1 (by omega) (by omega) (by omega)
  have f : fieldsC 138 b = (138, bigV b 2 8, w64 ((bigV b 10 4).toNat : Int), 0, (((b.getD 1 0#8).toNat / 8 % 2 : Nat) : Int), ()) := by
    rw [isB' (by decide +kernel), shp_138]
    simp only [get_whole, bigV_none, w64_zero, w64_byte, h1, h2, h3, w64_m2, Nat.reducePow]
  apply Exists.intro
  apply Exists.intro
  refine ⟨?_, ?_, fun _ => ?_⟩
  · simp only [reticuleref06_blocks, (cls_eq _).2, show clsI 138 = 2 from by decide, hl, Int.reduceEq, decide_false, decide_true, cond_true, cond_false, i1, g1, g2, Option.bind_some, and_chain, or_chain, jn_inl, Bool.not_true, Bool.not_false, Bool.or_true, Bool.or_false]
    try rfl
  · rw [f, shp_138]
    have l1 := (b.getD 1 0#8).isLt
    simp only [List.mem_cons, List.not_mem_nil, or_false, false_imp_iff, implies_true, forall_eq_or_imp, forall_eq, fineB, Int.reduceEq, if_false, if_true, Bool.and_eq_true, Bool.or_eq_true, true_and, and_true, decide_eq_true_eq]
    try simp only [get_whole, bv_eq_iff, h1, h2, h3, BitVec.toNat_umod, BitVec.toNat_udiv, BitVec.toNat_ofNat, Nat.reducePow, Nat.reduceMod]
    try omega
  · rw [f]
    try simp only [BitVec.toNat_umod, BitVec.toNat_udiv, BitVec.toNat_ofNat, Nat.reducePow, Nat.reduceMod]
theorem agree_47 : Agree 47 10 reticuleref06_blocks := by
  intro b hb hn
  have hl : (((b.take 10).length : Nat) : Int) = 10 := by rw [List.length_take, Nat.min_eq_left hn]; rfl
  have i1 : ix (b.take 10) (1 : Int) = some (b.getD 1 0#8) := ixT b 10 1 (by omega) hn
  have g1 : reticuleref06_big (b.take 10, (2 : Int), (4 : Int)) = some (bigV b 2 4) := refBigT b 10 2 4 hb (by omega) (by omega) (by omega) hn
  have g2 : reticuleref06_big (b.take 10, (7 : Int), (2 : Int)) = some (bigV b 7 2) := refBigT b 10 7 2 hb (by omega) (by omega) (by omega) hn
  have h1 : (getV (1, 1, 3, 1, ()) b).toNat = (b.getD 1 0#8).toNat / 2 ^ 3 % 2 ^ 1 := oneV b 1 3 1 (by omega) (by omega) (by omega)
  have h2 : (getV (1, 1, 1, 1, ()) b).toNat = (b.getD 1 0#8).toNat / 2 ^ 1 % 2 ^ 1 := oneV b 1 1 1 (by omega) (by omega) (by omega)
  have h3 : (getV (1, 1, 2, 1, ()) b).toNat = (b.getD 1 0#8).toNat / 2 ^ 2 % 2 ^ 1 := oneV b 1 2 1 (by omega) (by omega) (by omega)
  have f : fieldsC 47 b = (47, bigV b 2 4, w64 ((bigV b 7 2).toNat : Int), 0, (((b.getD 1 0#8).toNat / 2 % 2 : Nat) : Int), ()) := by
    rw [isB' (by decide +kernel), shp_47]
    simp only [get_whole, bigV_none, w64_zero, w64_byte, h1, h2, h3, w64_m2, Nat.reducePow]
  apply Exists.intro
  apply Exists.intro
  refine ⟨?_, ?_, fun _ => ?_⟩
  · simp only [reticuleref06_blocks, (cls_eq _).2, show clsI 47 = 3 from by decide, hl, Int.reduceEq, decide_false, decide_true, cond_true, cond_false, i1, g1, g2, Option.bind_some, and_chain, or_chain, jn_inl, Bool.not_true, Bool.not_false, Bool.or_true, Bool.or_false]
    try rfl
  · rw [f, shp_47]
    have l1 := (b.getD 1 0#8).isLt
    simp only [List.mem_cons, List.not_mem_nil, or_false, false_imp_iff, implies_true, forall_eq_or_imp, forall_eq, fineB, Int.reduceEq, if_false, if_true, Bool.and_eq_true, Bool.or_eq_true, true_and, and_true, decide_eq_true_eq]
    try simp only [get_whole, bv_eq_iff, h1, h2, h3, BitVec.toNat_umod, BitVec.toNat_udiv, BitVec.toNat_ofNat, Nat.reducePow, Nat.reduceMod]
    try omega
  · rw [f]
    try simp only [BitVec.toNat_umod, BitVec.toNat_udiv, BitVec.toNat_ofNat, Nat.reducePow, Nat.reduceMod]
theorem agree_175 : Agree 175 12 reticuleref06_blocks := by
  intro b hb hn
  have hl : (((b.take 12).length : Nat) : Int) = 12 := by rw [List.length_take, Nat.min_eq_left hn]; rfl
  have i1 : ix (b.take 12) (1 : Int) = some (b.getD 1 0#8) := ixT b 12 1 (by omega) hn
  have g1 : reticuleref06_big (b.take 12, (2 : Int), (4 : Int)) = some (bigV b 2 4) := refBigT b 12 2 4 hb (by omega) (by omega) (by omega) hn
  have g2 : reticuleref06_big (b.take 12, (6 : Int), (4 : Int)) = some (bigV b 6 4) := refBigT b 12 6 4 hb (by omega) (by omega) (by omega) hn
  have h1 : (getV (1, 1, 3, 1, ()) b).toNat = (b.getD 1 0#8).toNat / 2 ^ 3 % 2 ^ 1 := oneV b 1 3 1 (by omega) (by omega) (by omega)
  have h2 : (getV (1, 1, 1, 1, ()) b).toNat = (b.getD 1 0#8).toNat / 2 ^ 1 % 2 ^ 1 := oneV b 1 1 1 (by omega) (by omega) (by omega)
  have h3 : (getV (1, 1, 2, 1, ()) b).toNat = (b.getD 1 0#8).toNat / 2 ^ 2 % 2 ^ 1 := oneV b 1 2 1 (by omega) (by omega) (by omega)
  have f : fieldsC 175 b = (175, bigV b 2 4, w64 ((bigV b 6 4).toNat : Int), 0, (((b.getD 1 0#8).toNat / 2 % 2 : Nat) : Int), ()) := by
    rw [isB' (by decide +kernel), shp_175]
    simp only [get_whole, bigV_none, w64_zero, w64_byte, h1, h2, h3, w64_m2, Nat.reducePow]
  apply Exists.intro
  apply Exists.intro
  refine ⟨?_, ?_, fun _ => ?_⟩
  · simp only [reticuleref06_blocks, (cls_eq _).2, show clsI 175 = 3 from by decide, hl, Int.reduceEq, decide_false, decide_true, cond_true, cond_false, i1, g1, g2, Option.bind_some, and_chain, or_chain, jn_inl, Bool.not_true, Bool.not_false, Bool.or_true, Bool.or_false]
    try rfl
  · rw [f, shp_175]
    have l1 := (b.getD 1 0#8).isLt
    simp only [List.mem_cons, List.not_mem_nil, or_false, false_imp_iff, implies_true, forall_eq_or_imp, forall_eq, fineB, Int.reduceEq, if_false, if_true, Bool.and_eq_true, Bool.or_eq_true, true_and, and_true, decide_eq_true_eq]
    try simp only [get_whole, bv_eq_iff, h1, h2, h3, BitVec.toNat_umod, BitVec.toNat_udiv, BitVec.toNat_ofNat, Nat.reducePow, Nat.reduceMod]
    try omega
  · rw [f]
    try simp only [BitVec.toNat_umod, BitVec.toNat_udiv, BitVec.toNat_ofNat, Nat.reducePow, Nat.reduceMod]
theorem agree_143 : Agree 143 16 reticuleref06_blocks := by
  intro b hb hn
  have hl : (((b.take 16).length : Nat) : Int) = 16 := by rw [List.length_take, Nat.min_eq_left hn]; rfl
  have i1 : ix (b.take 16) (1 : Int) = some (b.getD 1 0#8) := ixT b 16 1 (by omega) hn
  have g1 : reticuleref06_big (b.take 16, (2 : Int), (8 : Int)) = some (bigV b 2 8) := refBigT b 16 2 8 hb (by omega) (by omega) (by omega) hn
  have g2 : reticuleref06_big (b.take 16, (10 : Int), (4 : Int)) = some (bigV b 10 4) := refBigT b 16 10 4 hb (by omega) (by omega) (by omega) hn
  have h1 : (getV (1, 1, 3, 1, ()) b).toNat = (b.getD 1 0#8).toNat / 2 ^ 3 % 2 ^ 1 := oneV b 1 3 1 (by omega) (by omega) (by omega)
  have h2 : (getV (1, 1, 1, 1, ()) b).toNat = (b.getD 1 0#8).toNat / 2 ^ 1 % 2 ^ 1 := oneV b 1 1 1 (by omega) (by omega) (by omega)
  have h3 : (getV (1, 1, 2, 1, ()) b).toNat = (b.getD 1 0#8).toNat / 2 ^ 2 % 2 ^ 1 := oneV b 1 2 1 (by omega) (by omega) (by omega)
  have f : fieldsC 143 b = (143, bigV b 2 8, w64 ((bigV b 10 4).toNat : Int), 0, (((b.getD 1 0#8).toNat / 2 % 2 : Nat) : Int), ()) := by
    rw [isB' (by decide +kernel), shp_143]
    simp only [get_whole, bigV_none, w64_zero, w64_byte, h1, h2, h3, w64_m2, Nat.reducePow]
  apply Exists.intro
  apply Exists.intro
  refine ⟨?_, ?_, fun _ => ?_⟩
  · simp only [reticuleref06_blocks, (cls_eq _).2, show clsI 143 = 3 from by decide, hl, Int.reduceEq, decide_false, decide_true, cond_true, cond_false, i1, g1, g2, Option.bind_some, and_chain, or_chain, jn_inl, Bool.not_true, Bool.not_false, Bool.or_true, Bool.or_false]
    try rfl
  · rw [f, shp_143]
    have l1 := (b.getD 1 0#8).isLt
    simp only [List.mem_cons, List.not_mem_nil, or_false, false_imp_iff, implies_true, forall_eq_or_imp, forall_eq, fineB, Int.reduceEq, if_false, if_true, Bool.and_eq_true, Bool.or_eq_true, true_and, and_true, decide_eq_true_eq]
    try simp only [get_whole, bv_eq_iff, h1, h2, h3, BitVec.toNat_umod, BitVec.toNat_udiv, BitVec.toNat_ofNat, Nat.reducePow, Nat.reduceMod]
    try omega
  · rw [f]
    try simp only [BitVec.toNat_umod, BitVec.toNat_udiv, BitVec.toNat_ofNat, Nat.reducePow, Nat.reduceMod]
theorem agree_53 : Agree 53 10 reticuleref06_blocks := by
  intro b hb hn
  have hl : (((b.take 10).length : Nat) : Int) = 10 := by rw [List.length_take, Nat.min_eq_left hn]; rfl
  have i1 : ix (b.take 10) (1 : Int) = some (b.getD 1 0#8) := ixT b 10 1 (by omega) hn
  have g1 : reticuleref06_big (b.take 10, (2 : Int), (4 : Int)) = some (bigV b 2 4) := refBigT b 10 2 4 hb (by omega) (by omega) (by omega) hn
  have g2 : reticuleref06_big (b.take 10, (7 : Int), (2 : Int)) = some (bigV b 7 2) := refBigT b 10 7 2 hb (by omega) (by omega) (by omega) hn
  have h1 : (getV (1, 1, 3, 1, ()) b).toNat = (b.getD 1 0#8).toNat / 2 ^ 3 % 2 ^ 1 := oneV b 1 3 1 (by omega) (by omega) (by omega)
  have h2 : (getV (1, 1, 1, 1, ()) b).toNat = (b.getD 1 0#8).toNat / 2 ^ 1 % 2 ^ 1 := oneV b 1 1 1 (by omega) (by omega) (by omega)
  have h3 : (getV (1, 1, 2, 1, ()) b).toNat = (b.getD 1 0#8).toNat / 2 ^ 2 % 2 ^ 1 := oneV b 1 2 1 (by omega) (by omega) (by omega)
  have f : fieldsC 53 b = (53, bigV b 2 4, w64 ((bigV b 7 2).toNat : Int), 0, 0, ()) := by
    rw [isB' (by decide +kernel), shp_53]
    simp only [get_whole, bigV_none, w64_zero, w64_byte, h1, h2, h3, w64_m2, Nat.reducePow]
  apply Exists.intro
  apply Exists.intro
  refine ⟨?_, ?_, fun _ => ?_⟩
  · simp only [reticuleref06_blocks, (cls_eq _).2, show clsI 53 = 4 from by decide, hl, Int.reduceEq, decide_false, decide_true, cond_true, cond_false, i1, g1, g2, Option.bind_some, and_chain, or_chain, jn_inl, Bool.not_true, Bool.not_false, Bool.or_true, Bool.or_false]
    try rfl
  · rw [f, shp_53]
    have l1 := (b.getD 1 0#8).isLt
    simp only [List.mem_cons, List.not_mem_nil, or_false, false_imp_iff, implies_true, forall_eq_or_imp, forall_eq, fineB, Int.reduceEq, if_false, if_true, Bool.and_eq_true, Bool.or_eq_true, true_and, and_true, decide_eq_true_eq]
    try simp only [get_whole, bv_eq_iff, h1, h2, h3, BitVec.toNat_umod, BitVec.toNat_udiv, BitVec.toNat_ofNat, Nat.reducePow, Nat.reduceMod]
    try omega
  · rw [f]
    try simp only [BitVec.toNat_umod, BitVec.toNat_udiv, BitVec.toNat_ofNat, Nat.reducePow, Nat.reduceMod]
theorem agree_145 : Agree 145 16 reticuleref06_blocks := by
  intro b hb hn
  have hl : (((b.take 16).length : Nat) : Int) = 16 := by rw [List.length_take, Nat.min_eq_left hn]; rfl
  have i1 : ix (b.take 16) (1 : Int) = some (b.getD 1 0#8) := ixT b 16 1 (by omega) hn
  have g1 : reticuleref06_big (b.take 16, (2 : Int), (8 : Int)) = some (bigV b 2 8) := refBigT b 16 2 8 hb (by omega) (by omega) (by omega) hn
  have g2 : reticuleref06_big (b.take 16, (10 : Int), (4 : Int)) = some (bigV b 10 4) := refBigT b 16 10 4 hb (by omega) (by omega) (by omega) hn
  have h1 : (getV (1, 1, 3, 1, ()) b).toNat = (b.getD 1 0#8).toNat / 2 ^ 3 % 2 ^ 1 := oneV b 1 3 1 (by omega) (by omega) (by omega)
  have h2 : (getV (1, 1, 1, 1, ()) b).toNat = (b.getD 1 0#8).toNat / 2 ^ 1 % 2 ^ 1 := oneV b 1 1 1 (by omega) (by omega) (by omega)
  have h3 : (getV (1, 1, 2, 1, ()) b).toNat = (b.getD 1 0#8).toNat / 2 ^ 2 % 2 ^ 1 := oneV b 1 2 1 (by omega) (by omega) (by omega)
  have f : fieldsC 145 b = (145, bigV b 2 8, w64 ((bigV b 10 4).toNat : Int), 0, 0, ()) := by
    rw [isB' (by decide +kernel), shp_145]
    simp only [get_whole, bigV_none, w64_zero, w64_byte, h1, h2, h3, w64_m2, Nat.reducePow]
  apply Exists.intro
  apply Exists.intro
  refine ⟨?_, ?_, fun _ => ?_⟩
  · simp only [reticuleref06_blocks, (cls_eq _).2, show clsI 145 = 4 from by decide, hl, Int.reduceEq, decide_false, decide_true, cond_true, cond_false, i1, g1, g2, Option.bind_some, and_chain, or_chain, jn_inl, Bool.not_true, Bool.not_false, Bool.or_true, Bool.or_false]
    try rfl
  · rw [f, shp_145]
    have l1 := (b.getD 1 0#8).isLt
    simp only [List.mem_cons, List.not_mem_nil, or_false, false_imp_iff, implies_true, forall_eq_or_imp, forall_eq, fineB, Int.reduceEq, if_false, if_true, Bool.and_eq_true, Bool.or_eq_true, true_and, and_true, decide_eq_true_eq]
    try simp only [get_whole, bv_eq_iff, h1, h2, h3, BitVec.toNat_umod, BitVec.toNat_udiv, BitVec.toNat_ofNat, Nat.reducePow, Nat.reduceMod]
    try omega
  · rw [f]
    try simp only [BitVec.toNat_umod, BitVec.toNat_udiv, BitVec.toNat_ofNat, Nat.reducePow, Nat.reduceMod]
end Cdb
end Go.Proofs.Ytnhmeldgpgidiaa
/- Plain laws of chapter 6: any bytes are parsed alike. -/
namespace Go.Proofs.Ytnhmeldgpgidiaa
open Go Go.Re
set_option linter.unusedVariables false
set_option linter.unusedSimpArgs false
namespace Cdb
theorem agree_R (op : Int) (h : op ∈ opsR) : Agree op (sizeI op).toNat reticuleref06_rest := by
  simp only [opsR, List.mem_cons, List.not_mem_nil, or_false] at h
  rcases h with rfl | rfl | rfl | rfl | rfl | rfl | rfl | rfl | rfl | rfl | rfl | rfl
  · exact agree_0
  · exact agree_3
  · exact agree_18
  · exact agree_21
  · exact agree_85
  · exact agree_26
  · exact agree_90
  · exact agree_27
  · exact agree_30
  · exact agree_37
  · exact agree_158
  · exact agree_160
theorem agree_B (op : Int) (h : op ∈ opsB) : Agree op (sizeI op).toNat reticuleref06_blocks := by
  simp only [opsB, List.mem_cons, List.not_mem_nil, or_false] at h
  rcases h with rfl | rfl | rfl | rfl | rfl | rfl | rfl | rfl | rfl | rfl | rfl | rfl | rfl
  · exact agree_8
  · exact agree_40
  · exact agree_168
  · exact agree_136
  · exact agree_10
  · exact agree_42
  · exact agree_170
  · exact agree_138
  · exact agree_47
  · exact agree_175
  · exact agree_143
  · exact agree_53
  · exact agree_145
theorem ref_parse_eq (b : BY) (hb : b.length ≤ 140737488355328) : reticuleref06_Parse b = some (parseC b) := by
  cases hbb : b with
  | nil => rfl
  | cons a r =>
    rw [← hbb]
    have hpos : 0 < b.length := by rw [hbb]; simp
    have hne : b ≠ [] := by rw [hbb]; simp
    have h0 : ¬ ((b.length : Int) = 0) := by omega
    have i0 : ix b (0 : Int) = some (b.getD 0 0#8) := ix_getD b 0 hpos
    unfold reticuleref06_Parse parseC
    simp only [decide_eq_false h0, cond_false, i0, Option.bind_some, (known_eq _).2, (size_eq _).2, (cls_eq _).2]
    generalize hop : ((b.getD 0 0#8).toNat : Int) = op
    by_cases hk : op ∈ ops
    · obtain ⟨g1, g2, g3, g4, g5⟩ := of_some op hk
      have hsz : sizeI op = ((sizeI op).toNat : Int) := by omega
      have hc : ¬ (b = [] ∨ op ∉ ops) := fun h => h.elim hne (fun h => h hk)
      simp only [decide_eq_true hk, Bool.not_true, cond_false, if_neg hc]
      by_cases hl : (sizeI op).toNat ≤ b.length
      · have h1 : ¬ ((b.length : Int) < sizeI op) := by omega
        have h2 : 0 ≤ sizeI op := by omega
        have h3 : sizeI op ≤ (b.length : Int) := by omega
        have hw : w64 (sizeI op - 1) = (((sizeI op).toNat - 1 : Nat) : Int) := by rw [w64_in] <;> omega
        simp only [decide_eq_false h1, cond_false, hw, ix_getD b ((sizeI op).toNat - 1) (by omega), Option.bind_some]
        by_cases hz : b.getD ((sizeI op).toNat - 1) 0#8 = 0#8
        · simp only [decide_eq_true hz, Bool.not_true, cond_false, decide_eq_true h2, decide_eq_true h3, Bool.and_true, chk_true rfl, Option.bind_some]
          have fin : ∀ (C : Cmd) (k : Bool), (k = true ↔ (∀ q ∈ (shp op).2.2.2.2.1, getV q.1 b = q.2) ∧ fineB (fieldsC op b) b = true) → (k = true → C = fieldsC op b) →
              (bif !k then (reticuleref04_Of (5, 36, 0)).bind fun r14 => some (((0, 0#64, 0, 0, 0, ()) : Cmd), r14) else some (C, 0, 0, 0, ())) =
                some (if (sizeI op).toNat ≤ b.length ∧ b.getD ((sizeI op).toNat - 1) 0#8 = 0#8 ∧ (∀ q ∈ (shp op).2.2.2.2.1, getV q.1 b = q.2) ∧ fineB (fieldsC op b) b = true then (fieldsC op b, zS) else (zC, fieldS)) := by
            intro C k e1 e2
            cases k with
            | true => rw [if_pos ⟨hl, hz, e1.1 rfl⟩, e2 rfl]; rfl
            | false => rw [if_neg (fun h => by have := e1.2 h.2.2; cases this)]; rfl
          by_cases hB : op ∈ opsB
          · obtain ⟨C0, k0, e0⟩ := rest_blocks op hB (b.take (sizeI op).toNat)
            obtain ⟨C, k, e1, e2, e3⟩ := agree_B op hB b hb hl
            simp only [e0, Option.bind_some, decide_eq_true ((cls_pos op).2 hB), cond_true, e1, jn_inl]
            exact fin C k e2 e3
          · have hR : op ∈ opsR := (List.mem_append.1 hk).resolve_left hB
            obtain ⟨C, k, e1, e2, e3⟩ := agree_R op hR b hb hl
            simp only [e1, Option.bind_some, decide_eq_false (fun h => hB ((cls_pos op).1 h)), cond_false, jn_inl]
            exact fin C k e2 e3
        · simp only [decide_eq_false hz, Bool.not_false, cond_true]
          rw [if_neg (fun h => hz h.2.1)]; rfl
      · have h1 : ((b.length : Int) < sizeI op) := by omega
        simp only [decide_eq_true h1, cond_true, Option.bind_some]
        rw [if_neg (fun h => hl h.1)]; rfl
    · simp only [decide_eq_false hk, Bool.not_false, cond_true]
      rw [if_pos (.inr hk)]; rfl
end Cdb
end Go.Proofs.Ytnhmeldgpgidiaa
/- Plain laws of chapter 6: numbers that are put into spans, bit by bit. -/
namespace Go.Proofs.Ytnhmeldgpgidiaa
open Go Go.Re
set_option linter.unusedVariables false
set_option linter.unusedSimpArgs false
namespace Cdb
/-! ### bits of bytes -/
def bit (l : BY) (j r : Nat) : Bool := (l.getD j 0#8).getLsbD r
theorem ext_bits {a b : BY} (hl : a.length = b.length) (h : ∀ j r, j < a.length → r < 8 → bit a j r = bit b j r) : a = b := by
  apply List.ext_getElem hl
  intro j h1 h2
  apply BitVec.eq_of_getLsbD_eq
  intro r hr
  have := h j r h1 hr
  simpa [bit, List.getD_eq_getElem?_getD, List.getElem?_eq_getElem h1, List.getElem?_eq_getElem h2] using this
theorem nv_bit : ∀ (l : BY) (k r : Nat), r < 8 → (nv l).testBit (8 * k + r) = (l.getD k 0#8).getLsbD r
  | [], k, r, h => by simp [nv]
  | c :: l, k, r, h => by
    have e : nv (c :: l) = 2 ^ 8 * nv l + c.toNat := by simp only [nv]; omega
    rw [e, Nat.testBit_two_pow_mul_add _ c.isLt]
    cases k with
    | zero => rw [if_pos (by omega)]; simp; rfl
    | succ k =>
      rw [if_neg (by omega), show 8 * (k + 1) + r - 8 = 8 * k + r by omega, nv_bit l k r h]
      simp
theorem big_bit (b : BY) (a w k r : Nat) (h1 : 1 ≤ w) (h2 : w ≤ 8) (h3 : a + w ≤ b.length) (hk : k < w) (hr : r < 8) : (bigV b a w).getLsbD (8 * k + r) = bit b (a + w - 1 - k) r := by
  have : (bigV b a w).getLsbD (8 * k + r) = (bigV b a w).toNat.testBit (8 * k + r) := rfl
  rw [this, bigV_nat b a w h1 h2 h3, bigN, nv_bit _ _ _ hr, bit]
  have hl : ((b.drop a).take w).length = w := by simp; omega
  congr 1
  rw [List.getD_eq_getElem?_getD, List.getD_eq_getElem?_getD, List.getElem?_reverse (by omega), hl, List.getElem?_take, if_pos (by omega), List.getElem?_drop]
  congr 2
  omega

/-! ### spans -/
def nB (s : Span) : Nat := if s.2.2.2.1 = 0 then 8 * s.2.1.toNat else s.2.2.2.1.toNat
/-- Does it lie so? -/
structure InS (N : Nat) (s : Span) (a w f n : Nat) : Prop where
  ea : s.1 = (a : Int)
  ew : s.2.1 = (w : Int)
  ef : s.2.2.1 = (f : Int)
  en : nB s = n
  a1 : 1 ≤ a
  w1 : 1 ≤ w
  w8 : w ≤ 8
  aw : a + w < N
  n1 : 1 ≤ n
  fn : f + n ≤ 8 * w
theorem okSp_in {N : Nat} {s : Span} (h : okSp N s = true) (hw : 0 < s.2.1) : InS N s s.1.toNat s.2.1.toNat s.2.2.1.toNat (nB s) := by
  simp only [okSp, Bool.or_eq_true, Bool.and_eq_true, decide_eq_true_eq] at h
  rcases h with h | ⟨h1, h2, h3, h4, h5⟩
  · rw [h] at hw; simp at hw
  · have h6 : (0 : Int) ≤ s.2.2.1 := by rcases h5 with h | h <;> omega
    refine ⟨by omega, by omega, by omega, rfl, by omega, by omega, by omega, by omega, ?_, ?_⟩
    · unfold nB; rcases h5 with h | h
      · rw [if_pos h.1]; omega
      · rw [if_neg (by omega)]; omega
    · unfold nB; rcases h5 with h | h
      · rw [if_pos h.1]; omega
      · rw [if_neg (by omega)]; omega
def cov (s : Span) (j r : Nat) : Bool :=
  decide (0 < s.2.1) && (decide (s.1.toNat ≤ j) && (decide (j < s.1.toNat + s.2.1.toNat) && (decide (s.2.2.1.toNat ≤ 8 * (s.1.toNat + s.2.1.toNat - 1 - j) + r) && decide (8 * (s.1.toNat + s.2.1.toNat - 1 - j) + r < s.2.2.1.toNat + nB s))))
def posn (s : Span) (j r : Nat) : Nat := 8 * (s.1.toNat + s.2.1.toNat - 1 - j) + r - s.2.2.1.toNat
def putS (s : Span) (x : BitVec 64) (b : BY) : BY :=
  overAt s.1.toNat b (leN s.2.1.toNat ((bigV b s.1 s.2.1 &&& ~~~maskBV s.2.2.1.toNat (nB s)) ||| ((x <<< s.2.2.1.toNat) &&& maskBV s.2.2.1.toNat (nB s)))).reverse
theorem over_len (lo : Nat) (xs ys : BY) (h : lo + ys.length ≤ xs.length) : (overAt lo xs ys).length = xs.length := by
  simp [overAt, over]; omega
theorem over_get (lo : Nat) (xs ys : BY) (h : lo + ys.length ≤ xs.length) (j : Nat) : (overAt lo xs ys).getD j 0#8 = if lo ≤ j ∧ j < lo + ys.length then ys.getD (j - lo) 0#8 else xs.getD j 0#8 := by
  have h1 : (xs.take lo).length = lo := by simp; omega
  have h2 : ys.take (xs.drop lo).length = ys := List.take_of_length_le (by simp; omega)
  simp only [List.getD_eq_getElem?_getD, overAt, over, h2]
  by_cases h3 : j < lo
  · rw [if_neg (by omega), List.getElem?_append_left (by omega), List.getElem?_take, if_pos h3]
  · rw [List.getElem?_append_right (by omega), h1]
    by_cases h4 : j < lo + ys.length
    · rw [if_pos ⟨by omega, h4⟩, List.getElem?_append_left (by omega)]
    · rw [if_neg (by omega), List.getElem?_append_right (by omega), List.getElem?_drop, List.getElem?_drop]
      congr 2
      omega
theorem put_len {N : Nat} {s : Span} (h : okSp N s = true) (hw : 0 < s.2.1) (x : BitVec 64) (b : BY) (hb : b.length = N) : (putS s x b).length = N := by
  have hi := okSp_in h hw
  unfold putS
  rw [over_len _ _ _ (by rw [List.length_reverse, leN_length]; have := hi.aw; omega), hb]
theorem put_bit {N : Nat} {s : Span} (h : okSp N s = true) (hw : 0 < s.2.1) (x : BitVec 64) (b : BY) (hb : b.length = N) (j r : Nat) (hj : j < N) (hr : r < 8) :
    bit (putS s x b) j r = if cov s j r = true then x.getLsbD (posn s j r) else bit b j r := by
  have hi := okSp_in h hw
  have hc : cov s j r = (decide (s.1.toNat ≤ j) && (decide (j < s.1.toNat + s.2.1.toNat) && (decide (s.2.2.1.toNat ≤ 8 * (s.1.toNat + s.2.1.toNat - 1 - j) + r) && decide (8 * (s.1.toNat + s.2.1.toNat - 1 - j) + r < s.2.2.1.toNat + nB s)))) := by
    simp only [cov, decide_eq_true hw, Bool.true_and]
  rw [hc]
  unfold posn
  obtain ⟨ea, ew, ef, en, a1, w1, w8, aw, n1, fn⟩ := hi
  generalize s.1.toNat = a at *
  generalize s.2.1.toNat = w at *
  generalize s.2.2.1.toNat = f at *
  generalize hn : nB s = n at *
  unfold bit putS
  rw [ea, ew, ef, hn, Int.toNat_natCast, Int.toNat_natCast, Int.toNat_natCast, over_get _ _ _ (by rw [List.length_reverse, leN_length]; omega), List.length_reverse, leN_length]
  by_cases h1 : a ≤ j ∧ j < a + w
  · rw [if_pos h1, List.getD_eq_getElem?_getD, List.getElem?_reverse (by rw [leN_length]; omega), leN_length, leN_get _ _ _ (by omega), Option.getD_some]
    have hk : w - 1 - (j - a) = a + w - 1 - j := by omega
    rw [hk]
    rw [BitVec.getLsbD_setWidth, BitVec.getLsbD_ushiftRight, set_bit _ _ _ _ _ (by omega) n1 (by omega), big_bit b a w _ r w1 w8 (by omega) (by omega) hr]
    have e : a + w - 1 - (a + w - 1 - j) = j := by omega
    simp only [e, hr, decide_true, Bool.true_and, decide_eq_true h1.1, decide_eq_true h1.2, Bool.and_eq_true, decide_eq_true_eq]
    rfl
  · rw [if_neg h1, if_neg]
    simp only [Bool.and_eq_true, decide_eq_true_eq]
    exact fun hh => h1 ⟨hh.1, hh.2.1⟩
theorem put_eq {N : Nat} {s : Span} (h : okSp N s = true) (hw : 0 < s.2.1) (x : BitVec 64) (b : BY) (hb : b.length = N) (hN : N ≤ 1000) : cdb_span_put (s, b, x) = some (putS s x b) := by
  have hi := okSp_in h hw
  obtain ⟨k, hk⟩ := big_eq b s.1 s.2.1 (by omega)
  obtain ⟨ea, ew, ef, en, a1, w1, w8, aw, n1, fn⟩ := hi
  have hbit : bitsIn s.2.2.1 (nB s : Int) := ⟨by omega, by omega, by omega, by omega⟩
  have hp : ∀ z : BitVec 64, number_PutBig (z, s.2.1) = some (leN s.2.1.toNat z).reverse := fun z => by rw [putBig_eq, if_pos (by omega)]
  have c1 : (0 : Int) ≤ s.1 := by omega
  have c2 : s.1 ≤ (b.length : Int) := by omega
  have hset : ∀ z : BitVec 64, number_Set (z, s.2.2.1, (nB s : Int), x) = some ((z &&& ~~~maskBV s.2.2.1.toNat (nB s)) ||| ((x <<< s.2.2.1.toNat) &&& maskBV s.2.2.1.toNat (nB s))) := fun z => by
    rw [num_set, if_pos hbit, Int.toNat_natCast]
  simp only [cdb_span_put, hk, Option.bind_some]
  by_cases h0 : s.2.2.2.1 = 0
  · have e : w64 (8 * s.2.1) = (nB s : Int) := by
      unfold nB; rw [if_pos h0, w64_in] <;> omega
    simp only [decide_eq_true h0, cond_true, jn_inl, e, decide_eq_true c1, decide_eq_true c2, Bool.and_true, chk_true rfl, Option.bind_some, hset, hp]
    rfl
  · have e : s.2.2.2.1 = (nB s : Int) := by
      have : 0 < s.2.2.2.1 := by
        simp only [okSp, Bool.or_eq_true, Bool.and_eq_true, decide_eq_true_eq] at h
        rcases h with h | h
        · rw [h] at hw; simp at hw
        · rcases h.2.2.2.2 with h | h <;> omega
      unfold nB; rw [if_neg h0]; omega
    have hset' : ∀ z : BitVec 64, number_Set (z, s.2.2.1, s.2.2.2.1, x) = some ((z &&& ~~~maskBV s.2.2.1.toNat (nB s)) ||| ((x <<< s.2.2.1.toNat) &&& maskBV s.2.2.1.toNat (nB s))) := fun z => by
      rw [e]; exact hset z
    simp only [decide_eq_false h0, cond_false, jn_inl, decide_eq_true c1, decide_eq_true c2, Bool.and_true, chk_true rfl, Option.bind_some, hset', hp]
    rfl
/-- A span's bits. -/
theorem get_bit {N : Nat} {s : Span} (h : okSp N s = true) (hw : 0 < s.2.1) (b : BY) (hb : N ≤ b.length) (i : Nat) :
    (getV s b).getLsbD i = (decide (i < nB s) && bit b (s.1.toNat + s.2.1.toNat - 1 - (s.2.2.1.toNat + i) / 8) ((s.2.2.1.toNat + i) % 8)) := by
  have h0 := h
  have hi := okSp_in h hw
  obtain ⟨ea, ew, ef, en, a1, w1, w8, aw, n1, fn⟩ := hi
  have hbig : ∀ q, q < 8 * s.2.1.toNat → (bigV b s.1 s.2.1).getLsbD q = bit b (s.1.toNat + s.2.1.toNat - 1 - q / 8) (q % 8) := by
    intro q hq
    have := big_bit b s.1.toNat s.2.1.toNat (q / 8) (q % 8) w1 w8 (by omega) (by omega) (by omega)
    rw [← ea, ← ew, show 8 * (q / 8) + q % 8 = q by omega] at this
    exact this
  unfold getV
  simp only [okSp, Bool.or_eq_true, Bool.and_eq_true, decide_eq_true_eq] at h
  rcases h with h | ⟨h1, h2, h3, h4, h5⟩
  · rw [h] at hw; simp at hw
  rcases h5 with h5 | h5
  · have hn : nB s = 8 * s.2.1.toNat := by unfold nB; rw [if_pos h5.1]
    rw [if_neg (by omega), h5.2]
    simp only [Int.toNat_zero, Nat.zero_add]
    by_cases hin : i < nB s
    · rw [hbig i (by omega), decide_eq_true hin, Bool.true_and]
    · rw [decide_eq_false hin, Bool.false_and]
      have hlt : (bigV b s.1 s.2.1).toNat < 2 ^ i := by
        have := bigV_nat b s.1.toNat s.2.1.toNat w1 w8 (by omega)
        rw [← ea, ← ew] at this
        rw [this]
        refine Nat.lt_of_lt_of_le (bigN_lt _ _ _) ?_
        rw [pow256]
        exact Nat.pow_le_pow_right (by decide) (by omega)
      exact Nat.testBit_lt_two_pow hlt
  · have hn : nB s = s.2.2.2.1.toNat := by unfold nB; rw [if_neg (by omega)]
    have hbit : bitsIn s.2.2.1 s.2.2.2.1 := ⟨by omega, by omega, by omega, by omega⟩
    rw [if_pos (by omega), if_pos hbit, bits_bit _ _ _ _ (by omega) (by omega), ← hn]
    by_cases hin : i < nB s
    · rw [hbig _ (by omega), decide_eq_true hin]
    · rw [decide_eq_false hin, Bool.false_and, Bool.false_and]
end Cdb
end Go.Proofs.Ytnhmeldgpgidiaa
/- Plain laws of chapter 6: a command's bytes, whatever the order in which the numbers are put. -/
namespace Go.Proofs.Ytnhmeldgpgidiaa
open Go Go.Re
set_option linter.unusedVariables false
set_option linter.unusedSimpArgs false
namespace Cdb
/-! ### sorted lists -/
theorem leL_total : ∀ a b : List Int, leL a b = true ∨ leL b a = true
  | [], _ => .inl rfl
  | _ :: _, [] => .inr rfl
  | a :: r, b :: s => by
    unfold leL
    by_cases h1 : a < b
    · simp [h1]
    · by_cases h2 : b < a
      · simp [h2]
      · simp [h1, h2, leL_total r s]
theorem leL_anti : ∀ a b : List Int, leL a b = true → leL b a = true → a = b
  | [], [], _, _ => rfl
  | [], _ :: _, _, h => by cases h
  | _ :: _, [], h, _ => by cases h
  | a :: r, b :: s, h, k => by
    unfold leL at h k
    by_cases h1 : a < b
    · have h2 : ¬ b < a := by omega
      simp [h1, h2] at k
    · by_cases h2 : b < a
      · simp [h1, h2] at h
      · simp only [decide_eq_false h1, decide_eq_false h2, cond_false] at h k
        rw [show a = b by omega, leL_anti r s h k]
theorem leL_trans : ∀ a b c : List Int, leL a b = true → leL b c = true → leL a c = true
  | [], _, _, _, _ => rfl
  | _ :: _, [], _, h, _ => by cases h
  | _ :: _, _ :: _, [], _, h => by cases h
  | a :: r, b :: s, c :: t, h, k => by
    unfold leL at h k ⊢
    by_cases h1 : a < b
    · by_cases h3 : b < c
      · simp [show a < c by omega]
      · by_cases h4 : c < b
        · simp [h3, h4] at k
        · simp [show a < c by omega]
    · by_cases h2 : b < a
      · simp [h1, h2] at h
      · have e : a = b := by omega
        subst e
        by_cases h3 : a < c
        · simp [h3]
        · by_cases h4 : c < a
          · simp [h3, h4] at k
          · simp only [decide_eq_false h1, decide_eq_false h2, decide_eq_false h3, decide_eq_false h4, cond_false] at h k ⊢
            exact leL_trans r s t h k
abbrev SPT : Ty := .pair (.st (.pair (.int .i64) (.pair (.int .i64) (.pair (.int .i64) (.pair (.int .i64) .unit))))) (.int .u64)
theorem enc_inj (x y : SPT.D) (h : encL SPT x = encL SPT y) : x = y := by
  obtain ⟨⟨a1, a2, a3, a4, _⟩, a5⟩ := x
  obtain ⟨⟨b1, b2, b3, b4, _⟩, b5⟩ := y
  have h : ([a1, a2, a3, a4, (a5.toNat : Int)] : List Int) = [b1, b2, b3, b4, (b5.toNat : Int)] := h
  simp only [List.cons.injEq, and_true] at h
  obtain ⟨rfl, rfl, rfl, rfl, h⟩ := h
  have : a5 = b5 := BitVec.eq_of_toNat_eq (by omega)
  rw [this]
theorem ins_comm (x y : SPT.D) : ∀ l : List SPT.D, insD SPT x (insD SPT y l) = insD SPT y (insD SPT x l)
  | [] => by
    have ht := leL_total (encL SPT x) (encL SPT y)
    have ha := fun h k => enc_inj x y (leL_anti (encL SPT x) (encL SPT y) h k)
    simp only [insD]
    cases h : leL (encL SPT x) (encL SPT y) <;> cases k : leL (encL SPT y) (encL SPT x) <;> simp only [cond_true, cond_false, insD]
    · rw [h, k] at ht; simp at ht
    · rw [ha h k]
  | z :: l => by
    have ih := ins_comm x y l
    have ht := leL_total (encL SPT x) (encL SPT y)
    have ha := fun h k => enc_inj x y (leL_anti (encL SPT x) (encL SPT y) h k)
    have hx := leL_total (encL SPT x) (encL SPT z)
    have hy := leL_total (encL SPT y) (encL SPT z)
    have t1 := leL_trans (encL SPT y) (encL SPT x) (encL SPT z)
    have t2 := leL_trans (encL SPT x) (encL SPT y) (encL SPT z)
    cases h : leL (encL SPT x) (encL SPT y) <;> cases k : leL (encL SPT y) (encL SPT x) <;> cases xz : leL (encL SPT x) (encL SPT z) <;> cases yz : leL (encL SPT y) (encL SPT z) <;>
      rw [h] at ht t2 ha <;> rw [k] at ht t1 ha <;> rw [xz] at t1 t2 hx <;> rw [yz] at t1 t2 hy <;>
      first
      | (exfalso; simp at ht t1 t2; done)
      | (exfalso; simp at t1; done)
      | (exfalso; simp at t2; done)
      | (exfalso; simp at ht; done)
      | (simp only [insD, xz, yz, h, k, cond_true, cond_false, ih]; done)
      | (rw [ha rfl rfl]; done)
theorem srt_perm {l l' : List SPT.D} (h : l.Perm l') : srtD SPT l = srtD SPT l' := by
  induction h with
  | nil => rfl
  | cons x _ ih => simp only [srtD, ih]
  | swap x y l => simp only [srtD]; exact ins_comm y x _
  | trans _ _ h1 h2 => exact h1.trans h2
theorem ins_perm (x : SPT.D) : ∀ l : List SPT.D, (x :: l).Perm (insD SPT x l) := insD_perm SPT x
theorem mem_srt {l : List SPT.D} {p : SPT.D} : p ∈ srtD SPT l ↔ p ∈ l := (srtD_perm SPT l).mem_iff.symm

/-! ### numbers that are put one behind the other -/
def stepP (p : Span × BitVec 64) (b : BY) : BY := if 0 < p.1.2.1 then putS p.1 p.2 b else b
def runL (l : Bag) (b : BY) : BY := l.foldl (fun b p => stepP p b) b
def OkL (N : Nat) (l : Bag) : Prop := ∀ p ∈ l, okSp N p.1 = true
def Dis (N : Nat) (l : Bag) : Prop := ∀ p ∈ l, ∀ q ∈ l, ∀ j r, j < N → r < 8 → cov p.1 j r = true → cov q.1 j r = true → p = q
theorem step_len {N : Nat} {p : Span × BitVec 64} (h : okSp N p.1 = true) {b : BY} (hb : b.length = N) : (stepP p b).length = N := by
  unfold stepP
  split
  · rename_i hw; exact put_len h hw _ _ hb
  · exact hb
theorem step_bit {N : Nat} {p : Span × BitVec 64} (h : okSp N p.1 = true) {b : BY} (hb : b.length = N) {j r : Nat} (hj : j < N) (hr : r < 8) :
    bit (stepP p b) j r = if cov p.1 j r = true then p.2.getLsbD (posn p.1 j r) else bit b j r := by
  unfold stepP
  split
  · rename_i hw; exact put_bit h hw _ _ hb j r hj hr
  · rename_i hw
    have : cov p.1 j r = false := by simp only [cov, decide_eq_false hw, Bool.false_and]
    rw [this]; rfl
theorem run_len {N : Nat} : ∀ {l : Bag} {b : BY}, OkL N l → b.length = N → (runL l b).length = N
  | [], _, _, hb => hb
  | p :: l, b, h, hb => run_len (l := l) (b := stepP p b) (fun q hq => h q (List.mem_cons_of_mem _ hq)) (step_len (h p List.mem_cons_self) hb)
theorem run_none {N : Nat} {j r : Nat} (hj : j < N) (hr : r < 8) : ∀ {l : Bag} {b : BY}, OkL N l → b.length = N → (∀ p ∈ l, cov p.1 j r = false) → bit (runL l b) j r = bit b j r
  | [], _, _, _, _ => rfl
  | p :: l, b, h, hb, hc => by
    have := run_none hj hr (l := l) (b := stepP p b) (fun q hq => h q (List.mem_cons_of_mem _ hq)) (step_len (h p List.mem_cons_self) hb) (fun q hq => hc q (List.mem_cons_of_mem _ hq))
    rw [show runL (p :: l) b = runL l (stepP p b) from rfl, this, step_bit (h p List.mem_cons_self) hb hj hr, hc p List.mem_cons_self]; rfl
theorem run_some {N : Nat} {j r : Nat} (hj : j < N) (hr : r < 8) {q : Span × BitVec 64} (hq : cov q.1 j r = true) : ∀ {l : Bag} {b : BY}, OkL N l → b.length = N → q ∈ l → (∀ p ∈ l, cov p.1 j r = true → p = q) →
    bit (runL l b) j r = q.2.getLsbD (posn q.1 j r)
  | [], _, _, _, hm, _ => by cases hm
  | p :: l, b, h, hb, hm, hu => by
    have hl : OkL N l := fun q hq => h q (List.mem_cons_of_mem _ hq)
    have hs := step_len (h p List.mem_cons_self) hb
    rw [show runL (p :: l) b = runL l (stepP p b) from rfl]
    by_cases hql : q ∈ l
    · exact run_some hj hr hq hl hs hql (fun p hp => hu p (List.mem_cons_of_mem _ hp))
    · have e : q = p := (List.mem_cons.1 hm).resolve_right hql
      subst e
      rw [run_none hj hr hl hs, step_bit (h q List.mem_cons_self) hb hj hr, if_pos hq]
      intro p hp
      cases hc : cov p.1 j r with
      | false => rfl
      | true => exact absurd (hu p (List.mem_cons_of_mem _ hp) hc ▸ hp) hql
/-- What the bits of it are. -/
theorem run_bit {N : Nat} {l : Bag} (h : OkL N l) (hd : Dis N l) {b : BY} (hb : b.length = N) {j r : Nat} (hj : j < N) (hr : r < 8) :
    (∃ q ∈ l, cov q.1 j r = true ∧ bit (runL l b) j r = q.2.getLsbD (posn q.1 j r)) ∨ ((∀ q ∈ l, cov q.1 j r = false) ∧ bit (runL l b) j r = bit b j r) := by
  by_cases hx : ∃ q ∈ l, cov q.1 j r = true
  · obtain ⟨q, hq, hc⟩ := hx
    exact .inl ⟨q, hq, hc, run_some hj hr hc h hb hq fun p hp hc' => hd p hp q hq j r hj hr hc' hc⟩
  · have hx : ∀ q ∈ l, cov q.1 j r = false := fun q hq => by
      cases hc : cov q.1 j r with
      | false => rfl
      | true => exact absurd ⟨q, hq, hc⟩ hx
    exact .inr ⟨hx, run_none hj hr h hb hx⟩
theorem run_same {N : Nat} {l l' : Bag} (h : OkL N l) (hd : Dis N l) (hm : ∀ p, p ∈ l ↔ p ∈ l') {b : BY} (hb : b.length = N) : runL l b = runL l' b := by
  have h' : OkL N l' := fun p hp => h p ((hm p).2 hp)
  have hd' : Dis N l' := fun p hp q hq => hd p ((hm p).2 hp) q ((hm q).2 hq)
  have hl := run_len h hb
  have hl' := run_len h' hb
  refine ext_bits (by rw [hl, hl']) fun j r hj hr => ?_
  rw [hl] at hj
  rcases run_bit h hd hb hj hr with ⟨q, q1, q2, q3⟩ | ⟨q1, q2⟩
  · rcases run_bit h' hd' hb hj hr with ⟨t, t1, t2, t3⟩ | ⟨t1, t2⟩
    · rw [q3, t3, hd q q1 t ((hm t).2 t1) j r hj hr q2 t2]
    · rw [t1 q ((hm q).1 q1)] at q2; cases q2
  · rcases run_bit h' hd' hb hj hr with ⟨t, t1, t2, t3⟩ | ⟨t1, t2⟩
    · rw [q1 t ((hm t).2 t1)] at t2; cases t2
    · rw [q2, t2]
theorem run_step {N : Nat} {l : Bag} (h : OkL N l) (hd : Dis N l) {p : Span × BitVec 64} (hp : p ∈ l) {b : BY} (hb : b.length = N) : runL (rmK p.1 l) (stepP p b) = runL l b := by
  have hsub : ∀ q ∈ rmK p.1 l, q ∈ l := fun q hq => (mem_rmK.1 hq).1
  have h' : OkL N (rmK p.1 l) := fun q hq => h q (hsub q hq)
  have hd' : Dis N (rmK p.1 l) := fun q hq t ht => hd q (hsub q hq) t (hsub t ht)
  have hs := step_len (h p hp) hb
  have hl := run_len h hb
  have hl' := run_len h' hs
  refine ext_bits (by rw [hl, hl']) fun j r hj hr => ?_
  rw [hl'] at hj
  rcases run_bit h hd hb hj hr with ⟨q, q1, q2, q3⟩ | ⟨q1, q2⟩
  · rcases run_bit h' hd' hs hj hr with ⟨t, t1, t2, t3⟩ | ⟨t1, t2⟩
    · rw [q3, t3, hd q q1 t (hsub t t1) j r hj hr q2 t2]
    · have e : q = p := by
        by_cases e : q.1 = p.1
        · exact hd q q1 p hp j r hj hr q2 (e ▸ q2)
        · rw [t1 q (mem_rmK.2 ⟨q1, e⟩)] at q2; cases q2
      subst e
      rw [t2, q3, step_bit (h q hp) hb hj hr, if_pos q2]
  · rcases run_bit h' hd' hs hj hr with ⟨t, t1, t2, t3⟩ | ⟨t1, t2⟩
    · rw [q1 t (hsub t t1)] at t2; cases t2
    · rw [t2, q2, step_bit (h p hp) hb hj hr, q1 p hp]; rfl

/-! ### the loops -/
theorem bytes_loop1 (c : Cmd) {N : Nat} (hN : N ≤ 1000) : ∀ k n (l : Bag) (b : BY) (p0 : Span × BitVec 64), l.length ≤ k → k < n → OkL N l → Dis N l → b.length = N →
    cdb_Bytes_L1 n (c, b, p0 :: l) = some (Sum.inl (c, runL l b)) := by
  intro k
  induction k with
  | zero =>
    intro n l b p0 hl hn ho hd hb
    obtain ⟨n, rfl⟩ := Nat.exists_eq_succ_of_ne_zero (show n ≠ 0 by omega)
    have : l = [] := List.length_eq_zero_iff.1 (by omega)
    subst this
    simp [cdb_Bytes_L1, runL]
  | succ k ih =>
    intro n l b p0 hl hn ho hd hb
    obtain ⟨n, rfl⟩ := Nat.exists_eq_succ_of_ne_zero (show n ≠ 0 by omega)
    cases l with
    | nil => simp [cdb_Bytes_L1, runL]
    | cons a r =>
      unfold cdb_Bytes_L1
      simp only [List.tail_cons, List.isEmpty_cons, cond_false]
      refine agreeL_intro ⟨a, List.mem_cons_self⟩ fun p hp => ?_
      have hlt := rmK_lt hp
      have hsub : ∀ q ∈ rmK p.1 (a :: r), q ∈ a :: r := fun q hq => (mem_rmK.1 hq).1
      have key : cdb_Bytes_L1 n (c, stepP p b, p :: rmK p.1 (a :: r)) = some (Sum.inl (c, runL (a :: r) b)) := by
        rw [ih n (rmK p.1 (a :: r)) (stepP p b) p (by omega) (by omega) (fun q hq => ho q (hsub q hq)) (fun q hq t ht => hd q (hsub q hq) t (hsub t ht)) (step_len (ho p hp) hb), run_step ho hd hp hb]
      by_cases hw : 0 < p.1.2.1
      · have e : stepP p b = putS p.1 p.2 b := by unfold stepP; rw [if_pos hw]
        simp only [decide_eq_true hw, cond_true, put_eq (ho p hp) hw p.2 b hb hN, Option.bind_some]
        rw [← e]; exact key
      · have e : stepP p b = b := by unfold stepP; rw [if_neg hw]
        rw [e] at key
        simp only [decide_eq_false hw, cond_false]
        exact key
theorem rm_perm : ∀ {l : Bag} {p : Span × BitVec 64}, keysU l = true → p ∈ l → l.Perm (p :: rmK p.1 l)
  | [], _, _, h => by cases h
  | a :: r, p, hk, hp => by
    have hk0 := hk
    simp only [keysU, Bool.and_eq_true, List.all_eq_true, Bool.not_eq_true', decide_eq_false_iff_not] at hk
    by_cases e : a = p
    · subst e
      have : rmK a.1 (a :: r) = r := by
        have h1 : rmK a.1 (a :: r) = rmK a.1 r := by
          unfold rmK
          rw [List.filter_cons_of_neg]
          rw [key_eq]; simp
        rw [h1]
        unfold rmK
        rw [List.filter_eq_self]
        intro q hq
        rw [key_eq, Bool.not_eq_true', decide_eq_false_iff_not]
        exact fun e => hk.1 q hq e.symm
      rw [this]
    · have hp' : p ∈ r := (List.mem_cons.1 hp).resolve_left (fun h => e h.symm)
      have : rmK p.1 (a :: r) = a :: rmK p.1 r := by
        unfold rmK
        rw [List.filter_cons_of_pos]
        rw [key_eq, Bool.not_eq_true', decide_eq_false_iff_not]
        exact fun h => hk.1 p hp' h
      rw [this]
      exact ((rm_perm hk.2 hp').cons a).trans (List.Perm.swap _ _ _)
theorem keysU_filter : ∀ {l : Bag} (f : Span × BitVec 64 → Bool), keysU l = true → keysU (l.filter f) = true
  | [], _, _ => rfl
  | a :: r, f, h => by
    simp only [keysU, Bool.and_eq_true, List.all_eq_true] at h
    rw [List.filter_cons]
    split
    · simp only [keysU, Bool.and_eq_true, List.all_eq_true]
      exact ⟨fun q hq => h.1 q (List.mem_filter.1 hq).1, keysU_filter f h.2⟩
    · exact keysU_filter f h.2
theorem bytes_loop0 (c : Cmd) (b : BY) : ∀ k n (l bag : Bag) (p0 : Span × BitVec 64), l.length ≤ k → k < n → keysU l = true →
    cdb_Bytes_L0 n (c, b, bag, p0 :: l) = some (Sum.inl (c, b, srtD SPT (bag ++ l))) := by
  intro k
  induction k with
  | zero =>
    intro n l bag p0 hl hn hk
    obtain ⟨n, rfl⟩ := Nat.exists_eq_succ_of_ne_zero (show n ≠ 0 by omega)
    have : l = [] := List.length_eq_zero_iff.1 (by omega)
    subst this
    simp [cdb_Bytes_L0]
  | succ k ih =>
    intro n l bag p0 hl hn hk
    obtain ⟨n, rfl⟩ := Nat.exists_eq_succ_of_ne_zero (show n ≠ 0 by omega)
    cases l with
    | nil => simp [cdb_Bytes_L0]
    | cons a r =>
      unfold cdb_Bytes_L0
      simp only [List.tail_cons, List.isEmpty_cons, cond_false]
      refine agreeL_intro ⟨a, List.mem_cons_self⟩ fun p hp => ?_
      have hlt := rmK_lt hp
      show cdb_Bytes_L0 n (c, b, srtD SPT (bag ++ [p]), p :: rmK p.1 (a :: r)) = _
      rw [ih n (rmK p.1 (a :: r)) (srtD SPT (bag ++ [p])) p (by omega) (by omega) (keysU_filter _ hk)]
      congr 3
      refine congrArg (Prod.mk b) (srt_perm ?_)
      refine ((srtD_perm SPT (bag ++ [p])).symm.append_right _).trans ?_
      rw [List.append_assoc]
      exact List.Perm.append_left _ (rm_perm hk hp).symm
end Cdb
end Go.Proofs.Ytnhmeldgpgidiaa
/- Plain laws of chapter 6: a command's bytes, and what they are parsed as. -/
namespace Go.Proofs.Ytnhmeldgpgidiaa
open Go Go.Re
set_option linter.unusedVariables false
set_option linter.unusedSimpArgs false
namespace Cdb
def keysS (s : Shape) : List Span := [s.1, s.2.1, s.2.2.1, s.2.2.2.1] ++ s.2.2.2.2.1.map (·.1)
def apartS (N : Nat) (s t : Span) : Bool := (List.range N).all fun j => (List.range 8).all fun r => !(cov s j r && cov t j r)
def disB (N : Nat) : List Span → Bool
  | [] => true
  | s :: r => (r.all fun t => apartS N s t) && disB N r
def fitsB (s : Shape) : Bool := (s.2.2.2.2.1.all fun p => decide (p.2.toNat < 2 ^ nB p.1)) && (decide (nB s.2.1 ≤ 32) && (decide (nB s.2.2.1 ≤ 32) && decide (nB s.2.2.2.1 ≤ 32)))
theorem shape_more (x : Int) (h : x ∈ ops) : disB (sizeI x).toNat (keysS (shp x)) = true ∧ fitsB (shp x) = true ∧ (decide (sizeI x = 6 ∧ x ∈ opsB) = true → nB (shp x).2.1 = 8) := by
  simp only [ops, opsB, opsR, List.cons_append, List.nil_append, List.mem_cons, List.not_mem_nil, or_false] at h
  rcases h with rfl | rfl | rfl | rfl | rfl | rfl | rfl | rfl | rfl | rfl | rfl | rfl | rfl | rfl | rfl | rfl | rfl | rfl | rfl | rfl | rfl | rfl | rfl | rfl | rfl <;>
    exact ⟨by kernel_rfl, by kernel_rfl, by first | (intro h; exact absurd h (by decide +kernel)) | (intro _; kernel_rfl)⟩
def bagC (s : Shape) (c : Cmd) : Bag := [(s.1, c.2.1), (s.2.1, BitVec.ofInt 64 c.2.2.1), (s.2.2.1, BitVec.ofInt 64 c.2.2.2.1), (s.2.2.2.1, BitVec.ofInt 64 c.2.2.2.2.1)] ++ s.2.2.2.2.1
def b0 (op : Int) : BY := (List.replicate (sizeI op).toNat (0#8)).set 0 (BitVec.ofInt 8 op)
noncomputable def bytesC (c : Cmd) : BY := runL (bagC (shp c.1) c) (b0 c.1)
theorem bag_keys (s : Shape) (c : Cmd) : (bagC s c).map (·.1) = keysS s := by simp [bagC, keysS]
theorem b0_len (op : Int) : (b0 op).length = (sizeI op).toNat := by simp [b0]
theorem apartS_spec {N : Nat} {s t : Span} (h : apartS N s t = true) {j r : Nat} (hj : j < N) (hr : r < 8) (h1 : cov s j r = true) (h2 : cov t j r = true) : False := by
  simp only [apartS, List.all_eq_true, List.mem_range, Bool.not_eq_true'] at h
  have := h j hj r hr
  rw [h1, h2] at this
  cases this
theorem disB_dis {N : Nat} : ∀ {l : Bag}, disB N (l.map (·.1)) = true → Dis N l
  | [], _ => fun p hp => by cases hp
  | a :: l, h => by
    simp only [List.map_cons, disB, Bool.and_eq_true, List.all_eq_true, List.mem_map, forall_exists_index, and_imp, forall_apply_eq_imp_iff₂] at h
    have ih := disB_dis h.2
    intro p hp q hq j r hj hr h1 h2
    rcases List.mem_cons.1 hp with rfl | hp'
    · rcases List.mem_cons.1 hq with rfl | hq'
      · rfl
      · exact (apartS_spec (h.1 q hq') hj hr h1 h2).elim
    · rcases List.mem_cons.1 hq with rfl | hq'
      · exact (apartS_spec (h.1 p hp') hj hr h2 h1).elim
      · exact ih p hp' q hq' j r hj hr h1 h2
theorem okShp_bag {N : Nat} {s : Shape} (h : okShp N s = true) (c : Cmd) : OkL N (bagC s c) := by
  simp only [okShp, Bool.and_eq_true, List.all_eq_true] at h
  intro p hp
  simp only [bagC, List.mem_append, List.mem_cons, List.not_mem_nil, or_false] at hp
  rcases hp with (rfl | rfl | rfl | rfl) | hp
  · exact h.1
  · exact h.2.1
  · exact h.2.2.1
  · exact h.2.2.2.1
  · exact (h.2.2.2.2 p hp).1
theorem bag_dis {op : Int} (h : op ∈ ops) (c : Cmd) : Dis (sizeI op).toNat (bagC (shp op) c) := disB_dis (by rw [bag_keys]; exact (shape_more op h).1)

theorem good_eq (x : Sn) : sense_Good x = some (decide (x = zS)) := by
  obtain ⟨a, b, c, _⟩ := x
  simp only [sense_Good, zS, Bool.and_true]
  congr 1
  by_cases h1 : a = 0 <;> by_cases h2 : b = 0 <;> by_cases h3 : c = 0 <;> simp [h1, h2, h3]
theorem cmd_dec (a b : Cmd) : ((decide (a.1 = b.1)) && ((decide (a.2.1 = b.2.1)) && ((decide (a.2.2.1 = b.2.2.1)) && ((decide (a.2.2.2.1 = b.2.2.2.1)) && ((decide (a.2.2.2.2.1 = b.2.2.2.2.1)) && true))))) = decide (a = b) := by
  obtain ⟨a1, a2, a3, a4, a5, _⟩ := a
  obtain ⟨b1, b2, b3, b4, b5, _⟩ := b
  by_cases h : (a1, a2, a3, a4, a5, ()) = (b1, b2, b3, b4, b5, ())
  · rw [decide_eq_true h]
    cases h
    simp
  · rw [decide_eq_false h]
    simp only [Prod.mk.injEq, and_true, not_and] at h
    simp only [Bool.and_true, Bool.and_eq_false_imp, decide_eq_true_eq, decide_eq_false_iff_not]
    exact h
theorem cmd_dec' (a b : Cmd) : ((decide (a.1 = b.1)) && ((decide (a.2.1 = b.2.1)) && ((decide (a.2.2.1 = b.2.2.1)) && ((decide (a.2.2.2.1 = b.2.2.2.1)) && (decide (a.2.2.2.2.1 = b.2.2.2.2.1)))))) = decide (a = b) := by
  rw [← cmd_dec, Bool.and_true]
theorem must_len {op : Int} (h : op ∈ ops) : (shp op).2.2.2.2.1.length ≤ 100 := by
  simp only [ops, opsB, opsR, List.cons_append, List.nil_append, List.mem_cons, List.not_mem_nil, or_false] at h
  rcases h with rfl | rfl | rfl | rfl | rfl | rfl | rfl | rfl | rfl | rfl | rfl | rfl | rfl | rfl | rfl | rfl | rfl | rfl | rfl | rfl | rfl | rfl | rfl | rfl | rfl <;> decide +kernel
open Classical in
theorem bytes_eq0 (c : Cmd) : cdb_Bytes c = some (if c.1 ∈ ops ∧ parseC (bytesC c) = (c, zS) then (bytesC c, true) else ([], false)) := by
  unfold cdb_Bytes
  simp only [(known_eq _).1, (size_eq _).1, Option.bind_some]
  by_cases hk : c.1 ∈ ops
  · obtain ⟨g1, g2, g3, g4, g5⟩ := of_some c.1 hk
    have h0 : 0 ≤ sizeI c.1 := by omega
    have h1 : sizeI c.1 ≤ ((lim : Nat) : Int) := by show sizeI c.1 ≤ 2147483648; omega
    have h2 : inLen 0 (List.replicate (sizeI c.1).toNat (0#8)).length = true := inLen_ok (by omega) (by simp; omega)
    have hm := must_len hk
    have hd := bag_dis hk c
    have ho := okShp_bag g2 c
    have hl := run_len ho (b0_len c.1)
    simp only [decide_eq_true hk, Bool.not_true, cond_false, decide_eq_true h0, decide_eq_true h1, decide_eq_true (Int.le_refl (sizeI c.1)), Bool.and_true, chk_true rfl, Option.bind_some, g1, h2]
    rw [bytes_loop0 c _ _ Big _ _ _ (Nat.le_refl _) (Nat.lt_of_le_of_lt hm (by decide)) g3]
    simp only [jn_inl]
    have hmem : ∀ p, p ∈ bagC (shp c.1) c ↔ p ∈ srtD SPT (srtD SPT (((([] ++ [((shp c.1).1, c.2.1)]) ++ [((shp c.1).2.1, BitVec.ofInt 64 c.2.2.1)]) ++ [((shp c.1).2.2.1, BitVec.ofInt 64 c.2.2.2.1)]) ++ [((shp c.1).2.2.2.1, BitVec.ofInt 64 c.2.2.2.2.1)]) ++ (shp c.1).2.2.2.2.1) := by
      intro p
      rw [mem_srt, List.mem_append, mem_srt]
      simp only [bagC, List.nil_append, List.cons_append, List.mem_append, List.mem_cons, List.not_mem_nil, or_false, or_assoc]
    have hs := run_same ho hd hmem (b0_len c.1)
    have ho' : OkL (sizeI c.1).toNat (srtD SPT (srtD SPT (((([] ++ [((shp c.1).1, c.2.1)]) ++ [((shp c.1).2.1, BitVec.ofInt 64 c.2.2.1)]) ++ [((shp c.1).2.2.1, BitVec.ofInt 64 c.2.2.2.1)]) ++ [((shp c.1).2.2.2.1, BitVec.ofInt 64 c.2.2.2.2.1)]) ++ (shp c.1).2.2.2.2.1)) := fun p hp => ho p ((hmem p).2 hp)
    have hd' : Dis (sizeI c.1).toNat (srtD SPT (srtD SPT (((([] ++ [((shp c.1).1, c.2.1)]) ++ [((shp c.1).2.1, BitVec.ofInt 64 c.2.2.1)]) ++ [((shp c.1).2.2.1, BitVec.ofInt 64 c.2.2.2.1)]) ++ [((shp c.1).2.2.2.1, BitVec.ofInt 64 c.2.2.2.2.1)]) ++ (shp c.1).2.2.2.2.1)) :=
      fun p hp q hq => hd p ((hmem p).2 hp) q ((hmem q).2 hq)
    have hlen : (srtD SPT (srtD SPT (((([] ++ [((shp c.1).1, c.2.1)]) ++ [((shp c.1).2.1, BitVec.ofInt 64 c.2.2.1)]) ++ [((shp c.1).2.2.1, BitVec.ofInt 64 c.2.2.2.1)]) ++ [((shp c.1).2.2.2.1, BitVec.ofInt 64 c.2.2.2.2.1)]) ++ (shp c.1).2.2.2.2.1)).length ≤ 200 := by
      rw [← (srtD_perm SPT _).length_eq, List.length_append, ← (srtD_perm SPT _).length_eq]
      simp only [List.nil_append, List.cons_append, List.length_cons, List.length_nil]
      omega
    have e0 : (List.replicate (sizeI c.1).toNat (0#8)).set (Int.toNat 0) (BitVec.ofInt 8 c.1) = b0 c.1 := rfl
    rw [e0, bytes_loop1 c (N := (sizeI c.1).toNat) (by omega) _ Big _ _ _ (Nat.le_refl _) (Nat.lt_of_le_of_lt hlen (by decide)) ho' hd' (b0_len c.1)]
    simp only [jn_inl]
    rw [← hs, show runL (bagC (shp c.1) c) (b0 c.1) = bytesC c from rfl]
    have hb : (bytesC c).length ≤ 140737488355328 := by rw [show (bytesC c).length = _ from hl]; omega
    simp only [parse_eq _ hb, good_eq, Option.bind_some, cmd_dec']
    generalize parseC (bytesC c) = P
    obtain ⟨d, s⟩ := P
    by_cases e1 : s = zS
    · by_cases e2 : d = c
      · rw [if_pos ⟨hk, by rw [e1, e2]⟩]
        simp only [decide_eq_true e1, decide_eq_true e2, Bool.not_true, cond_false, Option.bind_some]
      · rw [if_neg (fun h => e2 (Prod.mk.inj h.2).1)]
        simp only [decide_eq_true e1, decide_eq_false e2, Bool.not_true, Bool.not_false, cond_false, cond_true, Option.bind_some]
    · rw [if_neg (fun h => e1 (Prod.mk.inj h.2).2)]
      simp only [decide_eq_false e1, Bool.not_false, cond_true, Option.bind_some]
  · rw [if_neg (fun h => hk h.1)]
    simp only [decide_eq_false hk, Bool.not_false, cond_true]
end Cdb
end Go.Proofs.Ytnhmeldgpgidiaa
/- Plain laws of chapter 6: what a command's bytes are parsed as. -/
namespace Go.Proofs.Ytnhmeldgpgidiaa
open Go Go.Re
set_option linter.unusedVariables false
set_option linter.unusedSimpArgs false
namespace Cdb
def truncV (s : Span) (x : BitVec 64) : BitVec 64 := BitVec.ofNat 64 (x.toNat % 2 ^ nB s)
theorem truncV_nat (s : Span) (x : BitVec 64) : (truncV s x).toNat = x.toNat % 2 ^ nB s := by
  unfold truncV
  rw [BitVec.toNat_ofNat]
  apply Nat.mod_eq_of_lt
  exact Nat.lt_of_le_of_lt (Nat.mod_le _ _) x.isLt
theorem truncV_bit (s : Span) (x : BitVec 64) (i : Nat) : (truncV s x).getLsbD i = (decide (i < nB s) && x.getLsbD i) := by
  have : (truncV s x).getLsbD i = (truncV s x).toNat.testBit i := rfl
  rw [this, truncV_nat, Nat.testBit_mod_two_pow]; rfl
theorem truncV_id (s : Span) (x : BitVec 64) (h : x.toNat < 2 ^ nB s) : truncV s x = x := by
  apply BitVec.eq_of_toNat_eq
  rw [truncV_nat, Nat.mod_eq_of_lt h]
theorem okSp_zero {N : Nat} {s : Span} (h : okSp N s = true) (hw : ¬ 0 < s.2.1) : s = (0, 0, 0, 0, ()) := by
  simp only [okSp, Bool.or_eq_true, Bool.and_eq_true, decide_eq_true_eq] at h
  rcases h with h | h
  · exact h
  · omega
theorem get_zero (b : BY) : getV (0, 0, 0, 0, ()) b = 0#64 := rfl
theorem nB_zero : nB (0, 0, 0, 0, ()) = 0 := rfl
theorem bit_app (b more : BY) (j r : Nat) (h : j < b.length) : bit (b ++ more) j r = bit b j r := by
  unfold bit
  rw [List.getD_eq_getElem?_getD, List.getD_eq_getElem?_getD, List.getElem?_append_left h]
theorem get_run {N : Nat} {l : Bag} (h : OkL N l) (hd : Dis N l) {b more : BY} (hb : b.length = N) {p : Span × BitVec 64} (hp : p ∈ l) : getV p.1 (runL l b ++ more) = truncV p.1 p.2 := by
  have hl := run_len h hb
  have ho := h p hp
  by_cases hw : 0 < p.1.2.1
  · obtain ⟨ea, ew, ef, en, a1, w1, w8, aw, n1, fn⟩ := okSp_in ho hw
    apply BitVec.eq_of_getLsbD_eq
    intro i hi
    rw [get_bit ho hw _ (by simp [hl]) i, truncV_bit]
    by_cases hin : i < nB p.1
    · rw [decide_eq_true hin, Bool.true_and, Bool.true_and, bit_app _ _ _ _ (by omega)]
      have hc : cov p.1 (p.1.1.toNat + p.1.2.1.toNat - 1 - (p.1.2.2.1.toNat + i) / 8) ((p.1.2.2.1.toNat + i) % 8) = true := by
        simp only [cov, Bool.and_eq_true, decide_eq_true_eq]
        refine ⟨hw, by omega, by omega, by omega, by omega⟩
      rw [run_some (N := N) (by omega) (by omega) hc h hb hp (fun q hq hc' => hd q hq p hp _ _ (by omega) (by omega) hc' hc)]
      congr 1
      unfold posn
      omega
    · rw [decide_eq_false hin, Bool.false_and, Bool.false_and]
  · have e := okSp_zero ho hw
    rw [e, get_zero]
    unfold truncV
    rw [nB_zero]
    simp [Nat.mod_one]
theorem getD_of_bits {a b : BY} {j : Nat} (h : ∀ r, r < 8 → bit a j r = bit b j r) : a.getD j 0#8 = b.getD j 0#8 := BitVec.eq_of_getLsbD_eq fun r hr => h r hr
theorem getD_app (b more : BY) (j : Nat) (h : j < b.length) : (b ++ more).getD j 0#8 = b.getD j 0#8 := by
  rw [List.getD_eq_getElem?_getD, List.getD_eq_getElem?_getD, List.getElem?_append_left h]
/-- Where no span lies. -/
theorem get_rest {N : Nat} {l : Bag} (h : OkL N l) {b : BY} (hb : b.length = N) {j : Nat} (hj : j < N) (hc : ∀ p ∈ l, ∀ r, cov p.1 j r = false) : (runL l b).getD j 0#8 = b.getD j 0#8 :=
  getD_of_bits fun r hr => run_none hj hr h hb fun p hp => hc p hp r
theorem cov_first {N : Nat} {s : Span} (h : okSp N s = true) (r : Nat) : cov s 0 r = false := by
  by_cases hw : 0 < s.2.1
  · have := (okSp_in h hw).a1
    have hn : ¬ s.1.toNat ≤ 0 := by omega
    simp only [cov, decide_eq_false hn, Bool.false_and, Bool.and_false]
  · simp only [cov, decide_eq_false hw, Bool.false_and]
theorem cov_last {N : Nat} {s : Span} (h : okSp N s = true) (r : Nat) : cov s (N - 1) r = false := by
  by_cases hw : 0 < s.2.1
  · have := (okSp_in h hw).aw
    have hn : ¬ N - 1 < s.1.toNat + s.2.1.toNat := by omega
    simp only [cov, decide_eq_false hn, Bool.false_and, Bool.and_false]
  · simp only [cov, decide_eq_false hw, Bool.false_and]
theorem op_range {op : Int} (h : op ∈ ops) : 0 ≤ op ∧ op < 256 := by
  simp only [ops, opsB, opsR, List.cons_append, List.nil_append, List.mem_cons, List.not_mem_nil, or_false] at h
  omega
noncomputable def truncC (c : Cmd) : Cmd :=
  (c.1, truncV (shp c.1).1 c.2.1, if sizeI c.1 = 6 ∧ c.1 ∈ opsB ∧ w64 ((truncV (shp c.1).2.1 (BitVec.ofInt 64 c.2.2.1)).toNat : Int) = 0 then 256 else w64 ((truncV (shp c.1).2.1 (BitVec.ofInt 64 c.2.2.1)).toNat : Int),
    w64 ((truncV (shp c.1).2.2.1 (BitVec.ofInt 64 c.2.2.2.1)).toNat : Int), w64 ((truncV (shp c.1).2.2.2.1 (BitVec.ofInt 64 c.2.2.2.2.1)).toNat : Int), ())
theorem bytesC_len {c : Cmd} (hk : c.1 ∈ ops) : (bytesC c).length = (sizeI c.1).toNat := run_len (okShp_bag (of_some c.1 hk).2.1 c) (b0_len c.1)
theorem bytesC_first {c : Cmd} (hk : c.1 ∈ ops) : (((bytesC c).getD 0 0#8).toNat : Int) = c.1 := by
  obtain ⟨g1, g2, g3, g4, g5⟩ := of_some c.1 hk
  have ho := okShp_bag g2 c
  have := op_range hk
  rw [show bytesC c = runL (bagC (shp c.1) c) (b0 c.1) from rfl, get_rest ho (b0_len c.1) (by omega) (fun p hp r => cov_first (ho p hp) r), b0, List.getD_eq_getElem?_getD, List.getElem?_set_self (by simp; omega), Option.getD_some, BitVec.toNat_ofInt]
  omega
theorem bytesC_last {c : Cmd} (hk : c.1 ∈ ops) : (bytesC c).getD ((sizeI c.1).toNat - 1) 0#8 = 0#8 := by
  obtain ⟨g1, g2, g3, g4, g5⟩ := of_some c.1 hk
  have ho := okShp_bag g2 c
  rw [show bytesC c = runL (bagC (shp c.1) c) (b0 c.1) from rfl, get_rest ho (b0_len c.1) (by omega) (fun p hp r => cov_last (ho p hp) r), b0, List.getD_eq_getElem?_getD, List.getElem?_set_ne (by omega), List.getElem?_replicate, if_pos (by omega)]
  rfl
theorem fine_app (c d : Cmd) (hk : c.1 ∈ ops) (more : BY) : fineB d (bytesC c ++ more) = fineB d (bytesC c) := by
  have := bytesC_len hk
  have := (of_some c.1 hk).2.2.2.1
  unfold fineB
  rw [getD_app _ _ 2 (by omega)]
theorem fields_run (c : Cmd) (hk : c.1 ∈ ops) (more : BY) : fieldsC c.1 (bytesC c ++ more) = truncC c := by
  obtain ⟨g1, g2, g3, g4, g5⟩ := of_some c.1 hk
  have ho := okShp_bag g2 c
  have hd := bag_dis hk c
  have hm : ∀ p ∈ bagC (shp c.1) c, getV p.1 (bytesC c ++ more) = truncV p.1 p.2 := fun p hp => get_run ho hd (b0_len c.1) hp
  have h1 := hm ((shp c.1).1, c.2.1) (by simp [bagC])
  have h2 := hm ((shp c.1).2.1, BitVec.ofInt 64 c.2.2.1) (by simp [bagC])
  have h3 := hm ((shp c.1).2.2.1, BitVec.ofInt 64 c.2.2.2.1) (by simp [bagC])
  have h4 := hm ((shp c.1).2.2.2.1, BitVec.ofInt 64 c.2.2.2.2.1) (by simp [bagC])
  unfold fieldsC truncC
  rw [h1, h2, h3, h4]
theorem parse_bytes (c : Cmd) (hk : c.1 ∈ ops) (more : BY) : parseC (bytesC c ++ more) = if fineB (truncC c) (bytesC c) = true then (truncC c, zS) else (zC, fieldS) := by
  obtain ⟨g1, g2, g3, g4, g5⟩ := of_some c.1 hk
  have ho := okShp_bag g2 c
  have hd := bag_dis hk c
  have hl := bytesC_len hk
  have hne : ¬ (bytesC c ++ more = []) := by
    intro h
    have := congrArg List.length h
    simp [hl] at this
    omega
  unfold parseC
  rw [getD_app _ _ 0 (by omega), bytesC_first hk, if_neg (fun h => h.elim hne (fun h => h hk)), fields_run c hk, fine_app c _ hk, getD_app _ _ _ (by omega), bytesC_last hk]
  have hmust : ∀ q ∈ (shp c.1).2.2.2.2.1, getV q.1 (bytesC c ++ more) = q.2 := by
    intro q hq
    have := get_run (more := more) ho hd (b0_len c.1) (p := q) (by unfold bagC; exact List.mem_append_right _ hq)
    rw [show bytesC c = runL (bagC (shp c.1) c) (b0 c.1) from rfl, this]
    have hf := (shape_more c.1 hk).2.1
    simp only [fitsB, Bool.and_eq_true, List.all_eq_true, decide_eq_true_eq] at hf
    exact truncV_id _ _ (hf.1 q hq)
  by_cases hf : fineB (truncC c) (bytesC c) = true
  · rw [if_pos ⟨by simp [hl], rfl, hmust, hf⟩, if_pos hf]
  · rw [if_neg (fun h => hf h.2.2.2), if_neg hf]
theorem zS_ne : fieldS ≠ zS := by decide
theorem noS_ne : noS ≠ zS := by decide
/-- May a command's numbers be so? -/
def Fits (c : Cmd) : Prop := c.1 ∈ ops ∧ truncC c = c ∧ fineB c (bytesC c) = true
theorem parse_self (c : Cmd) : (c.1 ∈ ops ∧ parseC (bytesC c) = (c, zS)) ↔ Fits c := by
  constructor
  · rintro ⟨hk, h⟩
    have := parse_bytes c hk []
    rw [List.append_nil] at this
    rw [this] at h
    split at h
    · rename_i hf
      have e : truncC c = c := congrArg Prod.fst h
      rw [e] at hf
      exact ⟨hk, e, hf⟩
    · exact absurd (congrArg Prod.snd h) zS_ne
  · rintro ⟨hk, e, hf⟩
    refine ⟨hk, ?_⟩
    have := parse_bytes c hk []
    rw [List.append_nil, e, if_pos hf] at this
    exact this
open Classical in
theorem bytes_eq (c : Cmd) : cdb_Bytes c = some (if Fits c then (bytesC c, true) else ([], false)) := by
  rw [bytes_eq0]
  by_cases h : Fits c
  · rw [if_pos h, if_pos ((parse_self c).2 h)]
  · rw [if_neg h, if_neg (fun h' => h ((parse_self c).1 h'))]

/-! ### what is parsed fits -/
theorem getV_lt {N : Nat} {s : Span} (h : okSp N s = true) (b : BY) (hb : N ≤ b.length) : (getV s b).toNat < 2 ^ nB s := by
  by_cases hw : 0 < s.2.1
  · apply Nat.lt_pow_two_of_testBit
    intro i hi
    have : (getV s b).toNat.testBit i = (getV s b).getLsbD i := rfl
    rw [this, get_bit h hw b hb i, decide_eq_false (by omega), Bool.false_and]
  · rw [okSp_zero h hw, get_zero]
    exact Nat.two_pow_pos _
theorem ofInt_nat (x : BitVec 64) (h : x.toNat < 9223372036854775808) : BitVec.ofInt 64 (w64 (x.toNat : Int)) = x := by
  rw [w64_nat _ h]
  apply BitVec.eq_of_toNat_eq
  rw [BitVec.toNat_ofInt]
  have := x.isLt
  omega
theorem field_back {N : Nat} {s : Span} (h : okSp N s = true) (hn : nB s ≤ 32) (b : BY) (hb : N ≤ b.length) : truncV s (BitVec.ofInt 64 (w64 ((getV s b).toNat : Int))) = getV s b := by
  have h1 := getV_lt h b hb
  have h2 : 2 ^ nB s ≤ 2 ^ 32 := Nat.pow_le_pow_right (by decide) hn
  rw [ofInt_nat _ (by omega), truncV_id _ _ h1]
theorem fits_of_parse {b : BY} {c : Cmd} (h : parseC b = (c, zS)) : Fits c ∧ (sizeI c.1).toNat ≤ b.length := by
  unfold parseC at h
  split at h
  · exact absurd (congrArg Prod.snd h) noS_ne
  rename_i hc
  rw [not_or, Classical.not_not] at hc
  obtain ⟨hne, hk⟩ := hc
  generalize hop : ((b.getD 0 0#8).toNat : Int) = op at *
  split at h
  · rename_i hcond
    obtain ⟨hl, hz, hm, hf⟩ := hcond
    have e : fieldsC op b = c := congrArg Prod.fst h
    obtain ⟨g1, g2, g3, g4, g5⟩ := of_some op hk
    obtain ⟨s1, s2, s3⟩ := shape_more op hk
    simp only [fitsB, Bool.and_eq_true, decide_eq_true_eq] at s2
    obtain ⟨_, n1, n2, n3⟩ := s2
    simp only [okShp, Bool.and_eq_true] at g2
    obtain ⟨o1, o2, o3, o4, o5⟩ := g2
    have e1 : c.1 = op := by rw [← e]; rfl
    have key : truncC c = c := by
      rw [← e]
      unfold truncC
      have q1 : (fieldsC op b).1 = op := rfl
      have q2 : (fieldsC op b).2.1 = getV (shp op).1 b := rfl
      have q4 : (fieldsC op b).2.2.2.1 = w64 ((getV (shp op).2.2.1 b).toNat : Int) := rfl
      have q5 : (fieldsC op b).2.2.2.2.1 = w64 ((getV (shp op).2.2.2.1 b).toNat : Int) := rfl
      rw [q1, q2, q4, q5, truncV_id _ _ (getV_lt o1 b hl), field_back o3 n2 b hl, field_back o4 n3 b hl]
      have q3 : truncV (shp op).2.1 (BitVec.ofInt 64 (fieldsC op b).2.2.1) = getV (shp op).2.1 b := by
        unfold fieldsC
        simp only
        split
        · rename_i hh
          have hn8 := s3 (decide_eq_true ⟨hh.1, hh.2.1⟩)
          have hlt := getV_lt o2 b hl
          rw [hn8] at hlt
          have h0 : (getV (shp op).2.1 b).toNat = 0 := by
            have := hh.2.2
            rw [w64_nat _ (by omega)] at this
            omega
          apply BitVec.eq_of_toNat_eq
          rw [truncV_nat, hn8, h0]
          decide
        · exact field_back o2 n1 b hl
      rw [q3]
      rfl
    refine ⟨⟨e1 ▸ hk, key, ?_⟩, by rw [e1]; exact hl⟩
    rw [e] at hf
    have hk' : c.1 ∈ ops := e1 ▸ hk
    unfold fineB at hf ⊢
    by_cases h18 : c.1 = 18
    · rw [if_pos h18] at hf ⊢; exact hf
    · rw [if_neg h18] at hf ⊢
      by_cases h30 : c.1 = 30
      · rw [if_pos h30] at hf ⊢; exact hf
      · rw [if_neg h30] at hf ⊢
        by_cases h160 : c.1 = 160
        · rw [if_pos h160] at hf ⊢
          rw [Bool.and_eq_true] at hf ⊢
          refine ⟨?_, hf.2⟩
          have hl16 : 2 < (sizeI c.1).toNat := by have := (of_some c.1 hk').2.2.2.1; omega
          rw [show bytesC c = runL (bagC (shp c.1) c) (b0 c.1) from rfl, get_rest (okShp_bag (of_some c.1 hk').2.1 c) (b0_len c.1) hl16, b0, List.getD_eq_getElem?_getD, List.getElem?_set_ne (by omega), List.getElem?_replicate, if_pos hl16]
          · decide
          · intro p hp r
            have e160 : shp c.1 = ((0, 0, 0, 0, ()), (6, 4, 0, 0, ()), (0, 0, 0, 0, ()), (0, 0, 0, 0, ()), [], ()) := by rw [h160, shp_160]
            rw [e160] at hp
            simp only [bagC, List.append_nil, List.mem_cons, List.not_mem_nil, or_false] at hp
            rcases hp with rfl | rfl | rfl | rfl <;> rfl
        · rw [if_neg h160]
  · exact absurd (congrArg Prod.snd h) zS_ne
end Cdb
end Go.Proofs.Ytnhmeldgpgidiaa
/- Plain laws of chapter 6: CdbParses, CdbBack, CdbBlocks. -/
namespace Go.Proofs.Ytnhmeldgpgidiaa
open Go Go.Re
set_option linter.unusedVariables false
set_option linter.unusedSimpArgs false
namespace Cdb
theorem parse_ref (b : BY) (hb : b.length ≤ 1000) : cdb_Parse b = reticuleref06_Parse b := by
  rw [parse_eq b (by omega), ref_parse_eq b (by omega)]
theorem fits_first : Fits (40, 5#64, 3, 0, 0, ()) := ⟨by decide, by kernel_rfl, rfl⟩
theorem fits_not : ¬ Fits (40, 0#64, 65536, 0, 0, ()) := by
  intro h
  have h1 : (truncC (40, 0#64, 65536, 0, 0, ())).2.2.1 = 0 := by kernel_rfl
  rw [h.2.1] at h1
  exact absurd h1 (by decide)
theorem alive_ok : reticulelaw06_alive () = some true := by
  have p1 : cdb_Parse ([40#8, 0#8, 0#8, 0#8, 0#8, 5#8, 0#8, 0#8, 3#8, 0#8] : List (BitVec 8)) = some ((40, 5#64, 3, 0, 0, ()), 0, 0, 0, ()) := (parse_ref _ (by decide)).trans (by kernel_rfl)
  have p2 : cdb_Bytes ((40, 5#64, 3, 0, 0, ()) : Cmd) = some ([40#8, 0#8, 0#8, 0#8, 0#8, 5#8, 0#8, 0#8, 3#8, 0#8], true) := by
    rw [bytes_eq, if_pos fits_first]; kernel_rfl
  have p3 : cdb_Parse ([40#8, 0#8, 0#8, 0#8, 0#8, 5#8, 0#8, 0#8, 3#8, 1#8] : List (BitVec 8)) = some ((0, 0#64, 0, 0, 0, ()), 5, 36, 0, ()) := (parse_ref _ (by decide)).trans (by kernel_rfl)
  have p4 : cdb_Parse ([255#8, 0#8, 0#8, 0#8, 0#8, 0#8] : List (BitVec 8)) = some ((0, 0#64, 0, 0, 0, ()), 5, 32, 0, ()) := (parse_ref _ (by decide)).trans (by kernel_rfl)
  have p5 : cdb_Parse ([8#8, 255#8, 1#8, 2#8, 0#8, 0#8, 9#8] : List (BitVec 8)) = some ((8, 2031874#64, 256, 0, 0, ()), 0, 0, 0, ()) := (parse_ref _ (by decide)).trans (by kernel_rfl)
  have p6 : cdb_Bytes ((40, 0#64, 65536, 0, 0, ()) : Cmd) = some ([], false) := by
    rw [bytes_eq, if_neg fits_not]
  unfold reticulelaw06_alive
  rw [p1, Option.bind_some, p2, Option.bind_some, p3, Option.bind_some, p4, Option.bind_some, p5, Option.bind_some, p6, Option.bind_some]
  show _ = _
  kernel_rfl
theorem sn_dec (a b : Sn) : ((decide (a.1 = b.1)) && ((decide (a.2.1 = b.2.1)) && ((decide (a.2.2.1 = b.2.2.1)) && true))) = decide (a = b) := by
  obtain ⟨a1, a2, a3, _⟩ := a
  obtain ⟨b1, b2, b3, _⟩ := b
  by_cases h1 : a1 = b1 <;> by_cases h2 : a2 = b2 <;> by_cases h3 : a3 = b3 <;> simp [h1, h2, h3]
theorem sn_zero (a : Sn) : ((decide (a.1 = 0)) && ((decide (a.2.1 = 0)) && ((decide (a.2.2.1 = 0)) && true))) = decide (a = zS) := sn_dec a zS
theorem cmd_zero (a : Cmd) : ((decide (a.1 = 0)) && ((decide (a.2.1 = 0#64)) && ((decide (a.2.2.1 = 0)) && ((decide (a.2.2.2.1 = 0)) && ((decide (a.2.2.2.2.1 = 0)) && true))))) = decide (a = zC) := cmd_dec a zC
theorem parse_cases (b : BY) : parseC b = (zC, noS) ∨ parseC b = (zC, fieldS) ∨ ∃ c, parseC b = (c, zS) := by
  unfold parseC
  split
  · exact .inl rfl
  · split
    · exact .inr (.inr ⟨_, rfl⟩)
    · exact .inr (.inl rfl)

/-! ### commands that go by blocks -/
noncomputable def blkB (x : Int) : Bool := decide ((shp x).2.2.1 = (0, 0, 0, 0, ())) && (decide (nB (shp x).2.2.2.1 = if sizeI x = 6 ∨ clsI x = 4 then 0 else 1) &&
  (decide (nB (shp x).1 = if sizeI x = 6 then 21 else if sizeI x = 16 then 64 else 32) && (decide (nB (shp x).2.1 = if sizeI x = 6 then 8 else if sizeI x = 10 then 16 else 32) &&
    (decide (sizeI x = 6 ∨ sizeI x = 10 ∨ sizeI x = 12 ∨ sizeI x = 16) && decide (x ≠ 18 ∧ x ≠ 30 ∧ x ≠ 160)))))
theorem blk_tab (x : Int) (h : x ∈ opsB) : blkB x = true := by
  simp only [opsB, List.mem_cons, List.not_mem_nil, or_false] at h
  rcases h with rfl | rfl | rfl | rfl | rfl | rfl | rfl | rfl | rfl | rfl | rfl | rfl | rfl <;> kernel_rfl
theorem ofInt_of_nat (n : Nat) (h : n < 4294967296) : (BitVec.ofInt 64 (n : Int)).toNat = n := by
  rw [BitVec.toNat_ofInt]; omega
theorem fits_blk (op : Int) (h : op ∈ opsB) (a : BitVec 64) (n : BitVec 32) (bits : Int) (hb : bits = 0 ∨ bits = 1 ∧ 6 < sizeI op ∧ clsI op < 4) :
    Fits (op, a, (n.toNat : Int), 0, bits, ()) ↔ a.toNat < 2 ^ nB (shp op).1 ∧ (if sizeI op = 6 then 1 ≤ n.toNat ∧ n.toNat ≤ 256 else n.toNat < 2 ^ nB (shp op).2.1) := by
  have ht := blk_tab op h
  simp only [blkB, Bool.and_eq_true, decide_eq_true_eq] at ht
  obtain ⟨t1, t2, t3, t4, t5, t6⟩ := ht
  have hk : op ∈ ops := List.mem_append_left _ h
  have hn := n.isLt
  have hfine : ∀ c : Cmd, c.1 = op → ∀ b, fineB c b = true := by
    intro c hc b
    unfold fineB
    rw [hc, if_neg t6.1, if_neg t6.2.1, if_neg t6.2.2]
  have e0 : (BitVec.ofInt 64 (n.toNat : Int)).toNat = n.toNat := ofInt_of_nat _ (by omega)
  have hp : w64 ((truncV (shp op).2.2.1 (BitVec.ofInt 64 0)).toNat : Int) = 0 := by rw [truncV_nat, t1]; decide
  have hbits : w64 ((truncV (shp op).2.2.2.1 (BitVec.ofInt 64 bits)).toNat : Int) = bits := by
    rw [truncV_nat, t2]
    rcases hb with rfl | ⟨rfl, h1, h2⟩
    · split <;> decide
    · rw [if_neg (by omega)]; decide
  have htr : truncC (op, a, (n.toNat : Int), 0, bits, ()) = (op, truncV (shp op).1 a, if sizeI op = 6 ∧ op ∈ opsB ∧ w64 ((truncV (shp op).2.1 (BitVec.ofInt 64 (n.toNat : Int))).toNat : Int) = 0 then 256 else w64 ((truncV (shp op).2.1 (BitVec.ofInt 64 (n.toNat : Int))).toNat : Int), 0, bits, ()) := by
    unfold truncC
    simp only [hp, hbits]
  unfold Fits
  rw [htr]
  have hff := hfine (op, a, (n.toNat : Int), 0, bits, ()) rfl (bytesC (op, a, (n.toNat : Int), 0, bits, ()))
  simp only [Prod.mk.injEq, true_and, and_true, hk, hff]
  have ea : truncV (shp op).1 a = a ↔ a.toNat < 2 ^ nB (shp op).1 := by
    constructor
    · intro h
      rw [← h, truncV_nat]
      exact Nat.mod_lt _ (Nat.two_pow_pos _)
    · exact truncV_id _ _
  have en : (truncV (shp op).2.1 (BitVec.ofInt 64 (n.toNat : Int))).toNat = n.toNat % 2 ^ nB (shp op).2.1 := by rw [truncV_nat, e0]
  rw [ea, en]
  have hlt : n.toNat % 2 ^ nB (shp op).2.1 < 9223372036854775808 := Nat.lt_of_le_of_lt (Nat.mod_le _ _) (by omega)
  rw [w64_nat _ hlt, t4]
  refine and_congr Iff.rfl ?_
  by_cases h6 : sizeI op = 6
  · simp only [h6, h, if_true, true_and]
    split <;> omega
  · simp only [h6, if_false, false_and]
    by_cases h10 : sizeI op = 10
    · simp only [h10, if_true]; omega
    · simp only [h10, if_false]; omega
def lst : List Int := [8, 10, 40, 42, 47, 53, 168, 170, 175, 136, 138, 143, 145]
theorem lst_in (i : Nat) (h : i < 13) : ∃ op, lst[i]? = some op ∧ op ∈ opsB := by
  rcases (show i = 0 ∨ i = 1 ∨ i = 2 ∨ i = 3 ∨ i = 4 ∨ i = 5 ∨ i = 6 ∨ i = 7 ∨ i = 8 ∨ i = 9 ∨ i = 10 ∨ i = 11 ∨ i = 12 by omega) with rfl | rfl | rfl | rfl | rfl | rfl | rfl | rfl | rfl | rfl | rfl | rfl | rfl <;>
    exact ⟨_, rfl, by decide⟩
def mostV (s : Int) : BitVec 64 := if s = 6 then 2097151#64 else if s = 16 then 18446744073709551615#64 else 4294967295#64
def manyV (s : Int) : BitVec 64 := if s = 6 then 256#64 else if s = 10 then 65535#64 else 4294967295#64
open Classical in
theorem blocks_loop (a : BitVec 64) (nn : BitVec 32) (fua : Bool) : ∀ (k i n : Nat), i + k = 13 → k < n → reticulelaw06_CdbBlocks_L0 n (a, nn, fua, lst, (i : Int)) = some (Sum.inl ()) := by
  intro k
  induction k with
  | zero =>
    intro i n hi hn
    obtain ⟨n, rfl⟩ := Nat.exists_eq_succ_of_ne_zero (show n ≠ 0 by omega)
    have h : ¬ ((i : Int) < 13) := by omega
    simp only [reticulelaw06_CdbBlocks_L0, decide_eq_false h, cond_false]
  | succ k ih =>
    intro i n hi hn
    obtain ⟨n, rfl⟩ := Nat.exists_eq_succ_of_ne_zero (show n ≠ 0 by omega)
    have h : ((i : Int) < 13) := by omega
    obtain ⟨op, e1, hop⟩ := lst_in i (by omega)
    have ht := blk_tab op hop
    simp only [blkB, Bool.and_eq_true, decide_eq_true_eq] at ht
    obtain ⟨t1, t2, t3, t4, t5, t6⟩ := ht
    have hk : op ∈ ops := List.mem_append_left _ hop
    have hc : inLen (i : Int) 13 = true := inLen_nat (by omega)
    have hw := w64_succ i (by omega)
    have hsz : ∀ (m q : BitVec 64), (jn (A := BitVec 64 × BitVec 32 × Bool × List Int × Int × Int × BitVec 64 × BitVec 64) (R := Unit ⊕ Bool) (bif decide (sizeI op = 6) then some (Sum.inl (a, nn, fua, lst, (i : Int), op, 2097151#64, 256#64)) else
      bif decide (sizeI op = 10) then some (Sum.inl (a, nn, fua, lst, (i : Int), op, 4294967295#64, 65535#64)) else bif decide (sizeI op = 16) then some (Sum.inl (a, nn, fua, lst, (i : Int), op, 18446744073709551615#64, 4294967295#64)) else some (Sum.inl (a, nn, fua, lst, (i : Int), op, 4294967295#64, 4294967295#64))) : (_ → Option (Unit ⊕ Bool)) → Option (Unit ⊕ Bool)) =
        fun K => K (a, nn, fua, lst, (i : Int), op, mostV (sizeI op), manyV (sizeI op)) := by
      intro m q
      funext K
      rcases t5 with e | e | e | e <;> rw [e] <;> rfl
    simp only [reticulelaw06_CdbBlocks_L0, decide_eq_true h, cond_true, hc, chk_true rfl, Option.bind_some, Int.toNat_natCast, e1, (size_eq _).1]
    rw [hsz 0#64 0#64]
    simp only [(cls_eq _).1, (size_eq _).1, Option.bind_some]
    -- the bit that is asked for
    have hbit : ∃ bits : Int, (bits = 0 ∨ bits = 1 ∧ 6 < sizeI op ∧ clsI op < 4) ∧ ∀ K : (BitVec 64 × BitVec 32 × Bool × List Int × Int × Int × BitVec 64 × BitVec 64 × Cmd) → Option (Unit ⊕ Bool),
        jn (A := BitVec 64 × BitVec 32 × Bool × List Int × Int × Int × BitVec 64 × BitVec 64 × Cmd) (R := Unit ⊕ Bool) ((bif fua then some (decide (6 < sizeI op)) else (some false : Option Bool)).bind fun b7 => (bif b7 then some (decide (clsI op < 4)) else (some false : Option Bool)).bind fun b9 =>
          bif b9 then some (Sum.inl (a, nn, fua, lst, (i : Int), op, mostV (sizeI op), manyV (sizeI op), op, a, (nn.toNat : Int), 0, 1, ())) else some (Sum.inl (a, nn, fua, lst, (i : Int), op, mostV (sizeI op), manyV (sizeI op), op, a, (nn.toNat : Int), 0, 0, ()))) K =
        K (a, nn, fua, lst, (i : Int), op, mostV (sizeI op), manyV (sizeI op), op, a, (nn.toNat : Int), 0, bits, ()) := by
      cases fua with
      | false => exact ⟨0, .inl rfl, fun K => rfl⟩
      | true =>
        by_cases h1 : 6 < sizeI op
        · by_cases h2 : clsI op < 4
          · exact ⟨1, .inr ⟨rfl, h1, h2⟩, fun K => by simp only [cond_true, decide_eq_true h1, decide_eq_true h2, Option.bind_some, jn_inl]⟩
          · exact ⟨0, .inl rfl, fun K => by simp only [cond_true, cond_false, decide_eq_true h1, decide_eq_false h2, Option.bind_some, jn_inl]⟩
        · exact ⟨0, .inl rfl, fun K => by simp only [cond_true, cond_false, decide_eq_false h1, Option.bind_some, jn_inl]⟩
    obtain ⟨bits, hb, hK⟩ := hbit
    rw [hK]
    have hf := fits_blk op hop a nn bits hb
    have hnn := nn.isLt
    have haa := a.isLt
    have hlen := bytesC_len (c := (op, a, (nn.toNat : Int), 0, bits, ())) hk
    have hpos := (of_some op hk).2.2.2.1
    -- it fits just if it may
    have hcond : ((bif decide (a ≤ mostV (sizeI op)) then some (decide (nn.setWidth 64 ≤ manyV (sizeI op))) else (some false : Option Bool)).bind fun b12 => (bif b12 then ((bif decide (6 < sizeI op) then some true else some (decide (0#32 < nn)) : Option Bool).bind fun b14 => some b14) else some false : Option Bool)) =
        some (decide (Fits (op, a, (nn.toNat : Int), 0, bits, ()))) := by
      have e : Fits (op, a, (nn.toNat : Int), 0, bits, ()) ↔ (a ≤ mostV (sizeI op) ∧ nn.setWidth 64 ≤ manyV (sizeI op)) ∧ (6 < sizeI op ∨ 0#32 < nn) := by
        rw [hf, t3, t4]
        simp only [BitVec.le_def, BitVec.lt_def, BitVec.toNat_setWidth, BitVec.toNat_ofNat]
        unfold mostV manyV
        rcases t5 with e | e | e | e <;> simp only [e, Int.reduceEq, if_true, if_false, BitVec.toNat_ofNat, Nat.reducePow, Nat.reduceMod, Int.reduceLT, true_or, false_or, and_true] <;> omega
      by_cases h1 : a ≤ mostV (sizeI op) <;> by_cases h2 : nn.setWidth 64 ≤ manyV (sizeI op) <;> by_cases h3 : 6 < sizeI op <;> by_cases h4 : 0#32 < nn <;>
        simp only [e, h1, h2, h3, h4, decide_true, decide_false, cond_true, cond_false, Option.bind_some, and_self, and_true, true_and, and_false, false_and, or_true, true_or, or_self, or_false, false_or]
    obtain ⟨R, r1, r2, r3⟩ : ∃ R : BY × Bool, cdb_Bytes (op, a, (nn.toNat : Int), 0, bits, ()) = some R ∧ R.2 = decide (Fits (op, a, (nn.toNat : Int), 0, bits, ())) ∧ (R.2 = true → ((R.1.length : Nat) : Int) = sizeI op) := by
      refine ⟨_, bytes_eq _, ?_, ?_⟩
      · by_cases hF : Fits (op, a, (nn.toNat : Int), 0, bits, ())
        · rw [if_pos hF, decide_eq_true hF]
        · rw [if_neg hF, decide_eq_false hF]
      · by_cases hF : Fits (op, a, (nn.toNat : Int), 0, bits, ())
        · rw [if_pos hF]
          intro _
          rw [hlen]
          show (((sizeI op).toNat : Nat) : Int) = sizeI op
          omega
        · rw [if_neg hF]
          intro h
          cases h
    simp only [r1, Option.bind_some, (size_eq _).1]
    have fin : ∀ (X : Option Bool), X = some R.2 → ∀ K : Bool → Option (Unit ⊕ Bool), K R.2 = some (Sum.inl ()) → X.bind K = some (Sum.inl ()) := by rintro X rfl K h; exact h
    rw [← r2] at hcond
    rw [← Option.bind_assoc]
    refine fin _ hcond _ ?_
    have hR : (bif R.2 then some (!decide (((R.1.length : Nat) : Int) = sizeI op)) else (some false : Option Bool)) = some false := by
      cases hR : R.2 with
      | true => simp only [cond_true, decide_eq_true (r3 hR), Bool.not_true]
      | false => rfl
    simp only [decide_true, Bool.not_true, cond_false, hR, Option.bind_some, hw]
    exact ih (i + 1) n (by omega) (by omega)
theorem CdbBlocks_all (x : BitVec 64 × BitVec 32 × Bool) : reticulelaw06_CdbBlocks x = some true := by
  obtain ⟨a, nn, fua⟩ := x
  have := blocks_loop a nn fua 13 0 Big (by omega) (big_lt (by omega))
  simp only [Int.natCast_zero] at this
  simp only [reticulelaw06_CdbBlocks, alive_ok, Option.bind_some, Bool.not_true, cond_false]
  rw [show ([8, 10, 40, 42, 47, 53, 168, 170, 175, 136, 138, 143, 145] : List Int) = lst from rfl, this, jn_inl]
end Cdb
open Cdb
theorem CdbBlocks_pure (x : BitVec 64 × BitVec 32 × Bool) : reticulelaw06_CdbBlocks x = some true := CdbBlocks_all x
theorem CdbParses_pure (x : List (BitVec 8) × Int) : reticulelaw06_CdbParses x = some true := by
  obtain ⟨b, op⟩ := x
  simp only [reticulelaw06_CdbParses, alive_ok, Option.bind_some, Bool.not_true, cond_false]
  by_cases h : 100 < (b.length : Int)
  · simp only [decide_eq_true h, cond_true]
  · simp only [decide_eq_false h, cond_false, parse_eq b (by omega), ref_parse_eq b (by omega), Option.bind_some, cmd_dec, sn_dec, decide_true, cond_true, (size_eq op).1, (size_eq op).2, (known_eq op).1, (known_eq op).2, (cls_eq op).1, (cls_eq op).2]
    rfl
theorem CdbBack_pure (x : List (BitVec 8) × List (BitVec 8)) : reticulelaw06_CdbBack x = some true := by
  obtain ⟨b, more⟩ := x
  simp only [reticulelaw06_CdbBack, alive_ok, Option.bind_some, Bool.not_true, cond_false]
  by_cases h : 100 < (b.length : Int)
  · simp only [decide_eq_true h, cond_true, Option.bind_some]
  by_cases h2 : 100 < (more.length : Int)
  · simp only [decide_eq_false h, decide_eq_true h2, cond_true, cond_false, Option.bind_some]
  simp only [decide_eq_false h, decide_eq_false h2, cond_false, Option.bind_some, parse_eq b (by omega)]
  rcases parse_cases b with e | e | ⟨c, e⟩
  · rw [e]; rfl
  · rw [e]; rfl
  · obtain ⟨hf, hl⟩ := fits_of_parse e
    obtain ⟨hk, ht, hfine⟩ := hf
    have hlen := bytesC_len hk
    have h16 := (of_some c.1 hk).2.2.2.2
    have h6 := (of_some c.1 hk).2.2.2.1
    have hp : parseC (bytesC c ++ more) = (c, zS) := by rw [parse_bytes c hk more, ht, if_pos hfine]
    have c1 : (([] : BY).length + (bytesC c).length ≤ lim) := by show 0 + _ ≤ 2147483648; omega
    have c2 : ((([] : BY) ++ bytesC c).length + more.length ≤ lim) := by show (bytesC c).length + _ ≤ 2147483648; omega
    have e1 : ((bytesC c).length : Int) = sizeI c.1 := by omega
    have e2 : ((bytesC c).length : Int) ≤ (b.length : Int) := by omega
    have hF : Fits c := ⟨hk, ht, hfine⟩
    have hby : cdb_Bytes c = some (bytesC c, true) := by rw [bytes_eq, if_pos hF]
    rw [e]
    simp only [sn_zero, decide_true, Bool.not_true, cond_false, hby, Option.bind_some, decide_eq_true c1, decide_eq_true c2, chk_true rfl, cond_true]
    rw [show ([] ++ bytesC c ++ more : BY) = bytesC c ++ more from rfl, parse_eq _ (by rw [List.length_append]; omega), hp]
    simp only [Option.bind_some, sn_dec, cmd_dec, decide_true, cond_true, (size_eq _).1, decide_eq_true e1, decide_eq_true e2]
    rfl
end Go.Proofs.Ytnhmeldgpgidiaa
/- Plain laws of chapter 6: how the document lays a command's bytes: tools. -/
namespace Go.Proofs.Ytnhmeldgpgidiaa
open Go Go.Re
set_option linter.unusedVariables false
set_option linter.unusedSimpArgs false
namespace Cdb
theorem div256 (x : BitVec 64) : x / 256#64 = x >>> 8 := by
  apply BitVec.eq_of_toNat_eq
  rw [BitVec.toNat_udiv, BitVec.toNat_ushiftRight, Nat.shiftRight_eq_div_pow]; rfl
theorem mod256 (x : BitVec 64) : (x % 256#64).setWidth 8 = x.setWidth 8 := by
  apply BitVec.eq_of_toNat_eq
  rw [BitVec.toNat_setWidth, BitVec.toNat_setWidth, BitVec.toNat_umod]
  show x.toNat % 256 % 256 = x.toNat % 256
  omega
theorem leN_cons (k : Nat) (x : BitVec 64) : leN (k + 1) x = x.setWidth 8 :: leN k (x >>> 8) := by
  unfold leN
  rw [List.range_succ_eq_map, List.map_cons, List.map_map]
  have : ∀ (a : Nat), BitVec.setWidth 8 (x >>> (8 * (a + 1))) = BitVec.setWidth 8 (x >>> 8 >>> (8 * a)) := fun i => by
    rw [← BitVec.shiftRight_add, show 8 * (i + 1) = 8 + 8 * i by omega]
  congr 1
  apply List.map_congr_left
  intro i _
  exact this i
theorem list_ext {a b : BY} (hl : a.length = b.length) (h : ∀ j, a.getD j 0#8 = b.getD j 0#8) : a = b :=
  ext_bits hl fun j r _ _ => by unfold bit; rw [h j]
theorem set_getD (b : BY) (i j : Nat) (y : BitVec 8) (h : i < b.length) : (b.set i y).getD j 0#8 = if i = j then y else b.getD j 0#8 := by
  rw [List.getD_eq_getElem?_getD, List.getD_eq_getElem?_getD, List.getElem?_set]
  split
  · rfl
  · rfl
theorem lay_loop : ∀ (k n : Nat) (b : BY) (a : Nat) (x : BitVec 64), k < n → a + k ≤ b.length → b.length ≤ 1000 → reticuleref06_lay_L0 n (b, (a : Int), x, (k : Int) - 1) = some (Sum.inl (overAt a b (leN k x).reverse))
  | 0, n, b, a, x, hn, hk, hb => by
    obtain ⟨n, rfl⟩ := Nat.exists_eq_succ_of_ne_zero (show n ≠ 0 by omega)
    have h : ¬ (0 : Int) ≤ ((0 : Nat) : Int) - 1 := by omega
    simp only [reticuleref06_lay_L0, decide_eq_false h, cond_false]
    congr 2
    simp [leN, overAt, over]
  | k + 1, n, b, a, x, hn, hk, hb => by
    obtain ⟨n, rfl⟩ := Nat.exists_eq_succ_of_ne_zero (show n ≠ 0 by omega)
    have h : (0 : Int) ≤ ((k + 1 : Nat) : Int) - 1 := by omega
    have e1 : w64 ((a : Int) + (((k + 1 : Nat) : Int) - 1)) = ((a + k : Nat) : Int) := by rw [w64_in] <;> omega
    have e2 : w64 ((((k + 1 : Nat) : Int) - 1) - 1) = (k : Int) - 1 := by rw [w64_in] <;> omega
    have hc : inLen ((a + k : Nat) : Int) b.length = true := inLen_nat (by omega)
    simp only [reticuleref06_lay_L0, decide_eq_true h, cond_true, e1, e2, hc, chk_true rfl, Option.bind_some, Int.toNat_natCast, div256, mod256]
    have ih := lay_loop k n (b.set (a + k) (x.setWidth 8)) a (x >>> 8) (by omega) (by simp; omega) (by simpa using hb)
    rw [ih]
    congr 2
    have l1 : ((leN k (x >>> 8)).reverse).length = k := by rw [List.length_reverse, leN_length]
    have l2 : ((leN (k + 1) x).reverse).length = k + 1 := by rw [List.length_reverse, leN_length]
    refine list_ext ?_ fun j => ?_
    · rw [over_len _ _ _ (by rw [l1]; simp; omega), over_len _ _ _ (by rw [l2]; omega)]; simp
    · rw [over_get _ _ _ (by rw [l1]; simp; omega), over_get _ _ _ (by rw [l2]; omega), l1, l2, set_getD _ _ _ _ (by omega), leN_cons, List.reverse_cons]
      by_cases h1 : a ≤ j ∧ j < a + k
      · rw [if_pos h1, if_pos (by omega), List.getD_eq_getElem?_getD, List.getD_eq_getElem?_getD, List.getElem?_append_left (by rw [l1]; omega)]
      · rw [if_neg h1]
        by_cases h2 : a + k = j
        · rw [if_pos h2, if_pos (by omega), List.getD_eq_getElem?_getD, List.getElem?_append_right (by rw [l1]; omega), l1, show j - a - k = 0 by omega]
          rfl
        · rw [if_neg h2, if_neg (by omega)]
theorem nB_whole (a : Int) (w : Nat) : nB (a, (w : Int), 0, 0, ()) = 8 * w := rfl
theorem okSp_whole {N a w : Nat} (h1 : 1 ≤ a) (h2 : 1 ≤ w) (h3 : w ≤ 8) (h4 : a + w < N) : okSp N ((a : Int), (w : Int), 0, 0, ()) = true := by
  simp only [okSp, Bool.or_eq_true, Bool.and_eq_true, decide_eq_true_eq]
  exact .inr ⟨by omega, by omega, by omega, by omega, .inl ⟨trivial, trivial⟩⟩
theorem whole_bits {N a w : Nat} (h1 : 1 ≤ a) (h2 : 1 ≤ w) (h3 : w ≤ 8) (h4 : a + w < N) (x : BitVec 64) (b : BY) (hb : b.length = N) : overAt a b (leN w x).reverse = putS ((a : Int), (w : Int), 0, 0, ()) x b := by
  have ho := okSp_whole h1 h2 h3 h4
  have hw : (0 : Int) < (w : Int) := by omega
  have l2 : ((leN w x).reverse).length = w := by rw [List.length_reverse, leN_length]
  refine ext_bits ?_ fun j r hj hr => ?_
  · rw [over_len _ _ _ (by rw [l2]; omega), put_len ho hw x b hb, hb]
  · rw [over_len _ _ _ (by rw [l2]; omega), hb] at hj
    rw [put_bit ho hw x b hb j r hj hr]
    unfold bit
    rw [over_get _ _ _ (by rw [l2]; omega), l2]
    have hcov : cov ((a : Int), (w : Int), 0, 0, ()) j r = decide (a ≤ j ∧ j < a + w) := by
      have e : cov ((a : Int), (w : Int), 0, 0, ()) j r = (decide ((0 : Int) < (w : Int)) && (decide (a ≤ j) && (decide (j < a + w) && (decide (0 ≤ 8 * (a + w - 1 - j) + r) && decide (8 * (a + w - 1 - j) + r < 0 + 8 * w))))) := rfl
      rw [e, decide_eq_true hw, Bool.true_and]
      by_cases q : a ≤ j ∧ j < a + w
      · rw [decide_eq_true q, decide_eq_true q.1, decide_eq_true q.2, decide_eq_true (show 0 ≤ 8 * (a + w - 1 - j) + r by omega), decide_eq_true (show 8 * (a + w - 1 - j) + r < 0 + 8 * w by omega)]
        rfl
      · rw [decide_eq_false q]
        by_cases q1 : a ≤ j
        · rw [decide_eq_false (show ¬ j < a + w by omega)]; simp
        · rw [decide_eq_false q1]; simp
    rw [hcov]
    by_cases q : a ≤ j ∧ j < a + w
    · rw [if_pos q, if_pos (decide_eq_true q), List.getD_eq_getElem?_getD, List.getElem?_reverse (by rw [leN_length]; omega), leN_length, leN_get _ _ _ (by omega), Option.getD_some, BitVec.getLsbD_setWidth, BitVec.getLsbD_ushiftRight, decide_eq_true hr, Bool.true_and]
      congr 1
      show 8 * (w - 1 - (j - a)) + r = 8 * (a + w - 1 - j) + r - 0
      omega
    · rw [if_neg q, if_neg (by rw [decide_eq_false q]; exact Bool.false_ne_true)]
theorem lay_eq {N a w : Nat} (h1 : 1 ≤ a) (h2 : 1 ≤ w) (h3 : w ≤ 8) (h4 : a + w < N) (hN : N ≤ 1000) (x : BitVec 64) (b : BY) (hb : b.length = N) : reticuleref06_lay (b, (a : Int), (w : Int), x) = some (putS ((a : Int), (w : Int), 0, 0, ()) x b) := by
  have e : w64 ((w : Int) - 1) = (w : Int) - 1 := by rw [w64_in] <;> omega
  simp only [reticuleref06_lay, e]
  rw [lay_loop w Big b a x (Nat.lt_of_le_of_lt h3 (by decide)) (by omega) (by omega), jn_inl, whole_bits h1 h2 h3 h4 x b hb]
theorem set_put {N j : Nat} (h1 : 1 ≤ j) (h2 : j + 1 < N) (y : BitVec 8) (x : BitVec 64) (h : y = x.setWidth 8) (b : BY) (hb : b.length = N) : b.set j y = putS ((j : Int), 1, 0, 0, ()) x b := by
  have := whole_bits (w := 1) h1 (by omega) (by omega) h2 x b hb
  rw [show ((1 : Nat) : Int) = 1 from rfl] at this
  rw [← this, h]
  have l2 : ((leN 1 x).reverse).length = 1 := by rw [List.length_reverse, leN_length]
  refine list_ext ?_ fun i => ?_
  · rw [over_len _ _ _ (by rw [l2]; omega)]; simp
  · rw [over_get _ _ _ (by rw [l2]; omega), l2, set_getD _ _ _ _ (by omega)]
    by_cases e : j = i
    · rw [if_pos e, if_pos (by omega), show i - j = 0 by omega]
      simp [leN]
    · rw [if_neg e, if_neg (by omega)]
theorem ofInt8_64 (n : Int) : BitVec.ofInt 8 n = (BitVec.ofInt 64 n).setWidth 8 := by
  apply BitVec.eq_of_toNat_eq
  rw [BitVec.toNat_setWidth, BitVec.toNat_ofInt, BitVec.toNat_ofInt]
  omega

/-! ### where each bit comes from -/
inductive Sr where
  | zero | one | fld (k i : Nat)
  deriving DecidableEq
def cB (b : Bool) : Sr := bif b then .one else .zero
def nsrc (cst : Nat → Option (BitVec 64)) (wd : Nat → Nat) : List (Span × Nat) → Nat → Nat → Sr
  | [], _, _ => .zero
  | p :: l, j, r => bif cov p.1 j r then (match cst p.2 with
      | some v => cB (v.getLsbD (posn p.1 j r))
      | none => bif Nat.blt (posn p.1 j r) (wd p.2) then .fld p.2 (posn p.1 j r) else .zero)
    else nsrc cst wd l j r
def den (ρ : Nat → BitVec 64) : Sr → Bool
  | .zero => false | .one => true | .fld k i => (ρ k).getLsbD i
theorem nsrc_none {cst : Nat → Option (BitVec 64)} {wd : Nat → Nat} {j r : Nat} : ∀ {l : List (Span × Nat)}, (∀ p ∈ l, cov p.1 j r = false) → nsrc cst wd l j r = .zero
  | [], _ => rfl
  | p :: l, h => by
    unfold nsrc
    rw [h p List.mem_cons_self]
    exact nsrc_none fun q hq => h q (List.mem_cons_of_mem _ hq)
theorem nsrc_some {cst : Nat → Option (BitVec 64)} {wd : Nat → Nat} {ρ : Nat → BitVec 64} (hc : ∀ k v, cst k = some v → ρ k = v) (hw : ∀ k, cst k = none → (ρ k).toNat < 2 ^ wd k) {j r : Nat} :
    ∀ {l : List (Span × Nat)}, (∃ p ∈ l, cov p.1 j r = true) → ∃ p ∈ l, cov p.1 j r = true ∧ den ρ (nsrc cst wd l j r) = (ρ p.2).getLsbD (posn p.1 j r)
  | [], h => by obtain ⟨p, hp, _⟩ := h; cases hp
  | p :: l, h => by
    cases hp : cov p.1 j r with
    | true =>
      refine ⟨p, List.mem_cons_self, hp, ?_⟩
      unfold nsrc
      rw [hp, cond_true]
      cases hk : cst p.2 with
      | some v =>
        rw [hc _ _ hk]
        show den ρ (cB (v.getLsbD (posn p.1 j r))) = _
        cases v.getLsbD (posn p.1 j r) <;> rfl
      | none =>
        show den ρ (bif Nat.blt (posn p.1 j r) (wd p.2) then .fld p.2 (posn p.1 j r) else .zero) = _
        cases hb : Nat.blt (posn p.1 j r) (wd p.2) with
        | true => rfl
        | false =>
          have hge : wd p.2 ≤ posn p.1 j r := by
            rw [← Nat.not_lt]
            intro hlt
            rw [← Nat.blt_eq] at hlt
            rw [hlt] at hb; cases hb
          have : (ρ p.2).getLsbD (posn p.1 j r) = false := Nat.testBit_lt_two_pow (Nat.lt_of_lt_of_le (hw _ hk) (Nat.pow_le_pow_right (by decide) hge))
          rw [this]; rfl
    | false =>
      obtain ⟨q, q1, q2⟩ := h
      have hq : q ∈ l := (List.mem_cons.1 q1).resolve_left (fun e => by rw [e, hp] at q2; cases q2)
      obtain ⟨t, t1, t2, t3⟩ := nsrc_some hc hw (l := l) ⟨q, hq, q2⟩
      refine ⟨t, List.mem_cons_of_mem _ t1, t2, ?_⟩
      unfold nsrc
      rw [hp, cond_false]
      exact t3
def vals (ρ : Nat → BitVec 64) (l : List (Span × Nat)) : Bag := l.map fun p => (p.1, ρ p.2)
def okTab (N : Nat) (l : List (Span × Nat)) : Bool := (l.all fun p => okSp N p.1) && disB N (l.map (·.1))
def sameTab (N : Nat) (cst : Nat → Option (BitVec 64)) (wd : Nat → Nat) (l l' : List (Span × Nat)) : Bool :=
  (List.range N).all fun j => (List.range 8).all fun r => decide (nsrc cst wd l j r = nsrc cst wd l' j r)
theorem tab_bit {N : Nat} {cst : Nat → Option (BitVec 64)} {wd : Nat → Nat} {ρ : Nat → BitVec 64} (hc : ∀ k v, cst k = some v → ρ k = v) (hw : ∀ k, cst k = none → (ρ k).toNat < 2 ^ wd k)
    {l : List (Span × Nat)} (hl : okTab N l = true) {b : BY} (hb : b.length = N) {j r : Nat} (hj : j < N) (hr : r < 8) :
    (runL (vals ρ l) b).length = N ∧ (bit (runL (vals ρ l) b) j r = den ρ (nsrc cst wd l j r) ∨ (nsrc cst wd l j r = .zero ∧ bit (runL (vals ρ l) b) j r = bit b j r)) := by
  simp only [okTab, Bool.and_eq_true, List.all_eq_true] at hl
  have ho : OkL N (vals ρ l) := by
    intro p hp
    obtain ⟨q, q1, rfl⟩ := List.mem_map.1 hp
    exact hl.1 q q1
  have hd : Dis N (vals ρ l) := disB_dis (by unfold vals; rw [List.map_map]; exact hl.2)
  refine ⟨run_len ho hb, ?_⟩
  rcases run_bit ho hd hb hj hr with ⟨q, q1, q2, q3⟩ | ⟨q1, q2⟩
  · left
    obtain ⟨p, p1, rfl⟩ := List.mem_map.1 q1
    obtain ⟨t, t1, t2, t3⟩ := nsrc_some hc hw (l := l) ⟨p, p1, q2⟩
    rw [t3, q3]
    have := hd (p.1, ρ p.2) q1 (t.1, ρ t.2) (List.mem_map.2 ⟨t, t1, rfl⟩) j r hj hr q2 t2
    obtain ⟨e1, e2⟩ := Prod.mk.inj this
    show (ρ p.2).getLsbD (posn p.1 j r) = _
    rw [e1, e2]
  · right
    exact ⟨nsrc_none fun p hp => q1 (p.1, ρ p.2) (List.mem_map.2 ⟨p, hp, rfl⟩), q2⟩
theorem tab_same {N : Nat} {cst : Nat → Option (BitVec 64)} {wd : Nat → Nat} {ρ : Nat → BitVec 64} (hc : ∀ k v, cst k = some v → ρ k = v) (hw : ∀ k, cst k = none → (ρ k).toNat < 2 ^ wd k)
    {l l' : List (Span × Nat)} (hl : okTab N l = true) (hl' : okTab N l' = true) (hs : sameTab N cst wd l l' = true) {b : BY} (hb : b.length = N) (hz : ∀ j, 1 ≤ j → b.getD j 0#8 = 0#8) :
    runL (vals ρ l) b = runL (vals ρ l') b := by
  simp only [sameTab, List.all_eq_true, List.mem_range, decide_eq_true_eq] at hs
  have hl0 := hl
  have hl0' := hl'
  simp only [okTab, Bool.and_eq_true, List.all_eq_true] at hl hl'
  have ho : OkL N (vals ρ l) := by
    intro p hp
    obtain ⟨q, q1, rfl⟩ := List.mem_map.1 hp
    exact hl.1 q q1
  have ho' : OkL N (vals ρ l') := by
    intro p hp
    obtain ⟨q, q1, rfl⟩ := List.mem_map.1 hp
    exact hl'.1 q q1
  refine ext_bits (by rw [run_len ho hb, run_len ho' hb]) fun j r hj hr => ?_
  rw [run_len ho hb] at hj
  cases j with
  | zero =>
    rw [run_none hj hr ho hb (fun p hp => cov_first (ho p hp) r), run_none hj hr ho' hb (fun p hp => cov_first (ho' p hp) r)]
  | succ j =>
    have e := hs (j + 1) hj r hr
    have hzb : bit b (j + 1) r = false := by unfold bit; rw [hz _ (by omega)]; simp
    obtain ⟨_, h1⟩ := tab_bit hc hw hl0 hb hj hr
    obtain ⟨_, h2⟩ := tab_bit hc hw hl0' hb hj hr
    have d1 : bit (runL (vals ρ l) b) (j + 1) r = den ρ (nsrc cst wd l (j + 1) r) := by
      rcases h1 with h1 | ⟨h1, h3⟩
      · exact h1
      · rw [h3, h1, hzb]; rfl
    have d2 : bit (runL (vals ρ l') b) (j + 1) r = den ρ (nsrc cst wd l' (j + 1) r) := by
      rcases h2 with h2 | ⟨h2, h3⟩
      · exact h2
      · rw [h3, h2, hzb]; rfl
    rw [d1, d2, e]
theorem b0_zero (op : Int) (j : Nat) (h : 1 ≤ j) : (b0 op).getD j 0#8 = 0#8 := by
  rw [b0, List.getD_eq_getElem?_getD, List.getElem?_set_ne (by omega), List.getElem?_replicate]
  split <;> rfl

/-! ### the end of it -/
open Classical in
noncomputable def finB (c : Cmd) (B : BY) : BY × Bool := if parseC B = (c, zS) then (B, true) else ([], false)
theorem ref_fin (c : Cmd) (B : BY) (hB : B.length ≤ 1000) : ((reticuleref06_Parse B).bind fun r33 =>
    (bif !((decide (r33.2.1 = 0)) && ((decide (r33.2.2.1 = 0)) && ((decide (r33.2.2.2.1 = 0)) && true))) then some true
      else some (!((decide (r33.1.1 = c.1)) && ((decide (r33.1.2.1 = c.2.1)) && ((decide (r33.1.2.2.1 = c.2.2.1)) && ((decide (r33.1.2.2.2.1 = c.2.2.2.1)) && ((decide (r33.1.2.2.2.2.1 = c.2.2.2.2.1)) && true)))))) : Option Bool).bind fun b34 =>
    bif b34 then some (([] : List (BitVec 8)), false) else some (B, true)) = some (finB c B) := by
  rw [ref_parse_eq B (by omega), Option.bind_some]
  unfold finB
  generalize parseC B = P
  obtain ⟨d, s⟩ := P
  have hs : ((decide (s.1 = 0)) && ((decide (s.2.1 = 0)) && ((decide (s.2.2.1 = 0)) && true))) = decide (s = zS) := by
    have := good_eq s
    simp only [sense_Good, Option.some.injEq] at this
    exact this
  simp only [hs, cmd_dec]
  by_cases e1 : s = zS
  · by_cases e2 : d = c
    · rw [if_pos (by rw [e1, e2])]
      simp only [decide_eq_true e1, decide_eq_true e2, Bool.not_true, cond_false, Option.bind_some]
    · rw [if_neg (fun h => e2 (Prod.mk.inj h).1)]
      simp only [decide_eq_true e1, decide_eq_false e2, Bool.not_true, Bool.not_false, cond_false, cond_true, Option.bind_some]
  · rw [if_neg (fun h => e1 (Prod.mk.inj h).2)]
    simp only [decide_eq_false e1, Bool.not_false, cond_true, Option.bind_some]
/-- What a command that fits has as numbers. -/
theorem fits_small {c : Cmd} (h : Fits c) : c.2.1.toNat < 2 ^ nB (shp c.1).1 ∧ (0 ≤ c.2.2.1 ∧ c.2.2.1 ≤ 4294967296) ∧ (0 ≤ c.2.2.2.1 ∧ c.2.2.2.1 < 2 ^ nB (shp c.1).2.2.1) ∧ (0 ≤ c.2.2.2.2.1 ∧ c.2.2.2.2.1 < 2 ^ nB (shp c.1).2.2.2.1) := by
  obtain ⟨hk, ht, hf⟩ := h
  obtain ⟨s1, s2, s3⟩ := shape_more c.1 hk
  simp only [fitsB, Bool.and_eq_true, decide_eq_true_eq] at s2
  obtain ⟨_, n1, n2, n3⟩ := s2
  have lt : ∀ (s : Span) (x : BitVec 64), nB s ≤ 32 → (truncV s x).toNat < 2 ^ nB s ∧ (truncV s x).toNat < 4294967296 := fun s x hs => by
    rw [truncV_nat]
    have h1 := Nat.mod_lt x.toNat (Nat.two_pow_pos (nB s))
    have h2 : 2 ^ nB s ≤ 2 ^ 32 := Nat.pow_le_pow_right (by decide) hs
    exact ⟨h1, by omega⟩
  have e1 : truncV (shp c.1).1 c.2.1 = c.2.1 := congrArg (fun z => z.2.1) ht
  have e2 : (if sizeI c.1 = 6 ∧ c.1 ∈ opsB ∧ w64 ((truncV (shp c.1).2.1 (BitVec.ofInt 64 c.2.2.1)).toNat : Int) = 0 then 256 else w64 ((truncV (shp c.1).2.1 (BitVec.ofInt 64 c.2.2.1)).toNat : Int)) = c.2.2.1 := congrArg (fun z => z.2.2.1) ht
  have e3 : w64 ((truncV (shp c.1).2.2.1 (BitVec.ofInt 64 c.2.2.2.1)).toNat : Int) = c.2.2.2.1 := congrArg (fun z => z.2.2.2.1) ht
  have e4 : w64 ((truncV (shp c.1).2.2.2.1 (BitVec.ofInt 64 c.2.2.2.2.1)).toNat : Int) = c.2.2.2.2.1 := congrArg (fun z => z.2.2.2.2.1) ht
  obtain ⟨l2, m2⟩ := lt (shp c.1).2.1 (BitVec.ofInt 64 c.2.2.1) n1
  obtain ⟨l3, m3⟩ := lt (shp c.1).2.2.1 (BitVec.ofInt 64 c.2.2.2.1) n2
  obtain ⟨l4, m4⟩ := lt (shp c.1).2.2.2.1 (BitVec.ofInt 64 c.2.2.2.2.1) n3
  rw [w64_nat _ (by omega)] at e2 e3 e4
  refine ⟨?_, ?_, ?_, ?_⟩
  · rw [← e1, truncV_nat]
    exact Nat.mod_lt _ (Nat.two_pow_pos _)
  · rw [← e2]
    split <;> omega
  · rw [← e3]
    refine ⟨by omega, ?_⟩
    have : ((2 ^ nB (shp c.1).2.2.1 : Nat) : Int) = (2 : Int) ^ nB (shp c.1).2.2.1 := by simp
    omega
  · rw [← e4]
    refine ⟨by omega, ?_⟩
    have : ((2 ^ nB (shp c.1).2.2.2.1 : Nat) : Int) = (2 : Int) ^ nB (shp c.1).2.2.2.1 := by simp
    omega
end Cdb
end Go.Proofs.Ytnhmeldgpgidiaa
/- Plain laws of chapter 6: how the document lays a command's bytes. -/
namespace Go.Proofs.Ytnhmeldgpgidiaa
open Go Go.Re
set_option linter.unusedVariables false
set_option linter.unusedSimpArgs false
namespace Cdb
def rhoC (c : Cmd) : Nat → BitVec 64
  | 0 => c.2.1 | 1 => BitVec.ofInt 64 c.2.2.1 | 2 => BitVec.ofInt 64 c.2.2.2.1 | 3 => BitVec.ofInt 64 c.2.2.2.2.1
  | 4 => 0#64 | 5 => 1#64 | 6 => 16#64 | 7 => 8#64 | 8 => 2#64 | _ => 0#64
def cstC (o : Option (BitVec 64)) : Nat → Option (BitVec 64)
  | 0 => none | 1 => none | 2 => none | 3 => o
  | 4 => some 0#64 | 5 => some 1#64 | 6 => some 16#64 | 7 => some 8#64 | 8 => some 2#64 | _ => some 0#64
noncomputable def wdC (op : Int) : Nat → Nat
  | 0 => nB (shp op).1 | 1 => 64 | 2 => nB (shp op).2.2.1 | 3 => nB (shp op).2.2.2.1 | _ => 0
theorem cstC_ok (c : Cmd) (o : Option (BitVec 64)) (ho : ∀ v, o = some v → BitVec.ofInt 64 c.2.2.2.2.1 = v) : ∀ k v, cstC o k = some v → rhoC c k = v := by
  intro k v h
  match k, h with
  | 3, h => exact ho v h
  | 4, h => cases h; rfl
  | 5, h => cases h; rfl
  | 6, h => cases h; rfl
  | 7, h => cases h; rfl
  | 8, h => cases h; rfl
  | _ + 9, h => cases h; rfl
theorem ofInt_lt (n : Int) (k : Nat) (h0 : 0 ≤ n) (h : n < 2 ^ k) (h1 : n < 18446744073709551616) : (BitVec.ofInt 64 n).toNat < 2 ^ k := by
  rw [BitVec.toNat_ofInt]
  have : ((2 ^ k : Nat) : Int) = (2 : Int) ^ k := by simp
  omega
theorem wdC_ok (c : Cmd) (h : Fits c) (o : Option (BitVec 64)) : ∀ k, cstC o k = none → (rhoC c k).toNat < 2 ^ wdC c.1 k := by
  intro k hk
  obtain ⟨h1, h2, h3, h4⟩ := fits_small h
  have hs := (shape_more c.1 h.1).2.1
  simp only [fitsB, Bool.and_eq_true, decide_eq_true_eq] at hs
  obtain ⟨_, n1, n2, n3⟩ := hs
  have p2 : (2 : Int) ^ nB (shp c.1).2.2.1 ≤ 4294967296 := by
    have : 2 ^ nB (shp c.1).2.2.1 ≤ 2 ^ 32 := Nat.pow_le_pow_right (by decide) n2
    have e : ((2 ^ nB (shp c.1).2.2.1 : Nat) : Int) = (2 : Int) ^ nB (shp c.1).2.2.1 := by simp
    omega
  have p3 : (2 : Int) ^ nB (shp c.1).2.2.2.1 ≤ 4294967296 := by
    have : 2 ^ nB (shp c.1).2.2.2.1 ≤ 2 ^ 32 := Nat.pow_le_pow_right (by decide) n3
    have e : ((2 ^ nB (shp c.1).2.2.2.1 : Nat) : Int) = (2 : Int) ^ nB (shp c.1).2.2.2.1 := by simp
    omega
  match k, hk with
  | 0, _ => exact h1
  | 1, _ => exact BitVec.isLt _
  | 2, _ => exact ofInt_lt _ _ h3.1 h3.2 (by omega)
  | 3, _ => exact ofInt_lt _ _ h4.1 h4.2 (by omega)
  | 4, h => cases h
  | 5, h => cases h
  | 6, h => cases h
  | 7, h => cases h
  | 8, h => cases h
  | _ + 9, h => cases h
theorem same_bytes (c : Cmd) (hF : Fits c) (o : Option (BitVec 64)) (ho : ∀ v, o = some v → BitVec.ofInt 64 c.2.2.2.2.1 = v) {N : Nat} (hN : (sizeI c.1).toNat = N) (tP tR : List (Span × Nat))
    (hb : bagC (shp c.1) c = vals (rhoC c) tP) (h1 : okTab N tP = true) (h2 : okTab N tR = true) (h3 : sameTab N (cstC o) (wdC c.1) tP tR = true) : bytesC c = runL (vals (rhoC c) tR) (b0 c.1) := by
  unfold bytesC
  rw [hb]
  exact tab_same (cstC_ok c o ho) (wdC_ok c hF o) h1 h2 h3 (by rw [b0_len, hN]) (b0_zero c.1)
theorem chk_in {i : Int} {b : BY} {N : Nat} (hb : b.length = N) (h : inLen i N = true) : chk (inLen i b.length) = some () := by rw [hb]; exact chk_true h
theorem step_put (s : Span) (x : BitVec 64) (b : BY) (h : 0 < s.2.1) : stepP (s, x) b = putS s x b := by unfold stepP; rw [if_pos h]
/-- Six bits, and two. -/
theorem set_two {N : Nat} (h2 : 3 < N) (p k : Int) (hp : 0 ≤ p ∧ p < 64) (hk : 0 ≤ k ∧ k < 4) (b : BY) (hb : b.length = N) (hz : b.getD 2 0#8 = 0#8) :
    b.set 2 (BitVec.ofInt 8 (w64 (p.tmod 64 + w64 (k * 64)))) = putS (2, 1, 6, 2, ()) (BitVec.ofInt 64 k) (putS (2, 1, 0, 6, ()) (BitVec.ofInt 64 p) b) := by
  have o1 : okSp N (2, 1, 0, 6, ()) = true := by
    simp only [okSp, Bool.or_eq_true, Bool.and_eq_true, decide_eq_true_eq]
    exact .inr ⟨by omega, by omega, by omega, by omega, .inr ⟨by omega, by omega, by omega⟩⟩
  have o2 : okSp N (2, 1, 6, 2, ()) = true := by
    simp only [okSp, Bool.or_eq_true, Bool.and_eq_true, decide_eq_true_eq]
    exact .inr ⟨by omega, by omega, by omega, by omega, .inr ⟨by omega, by omega, by omega⟩⟩
  have w1 : (0 : Int) < ((2, 1, 0, 6, ()) : Span).2.1 := by decide
  have w2 : (0 : Int) < ((2, 1, 6, 2, ()) : Span).2.1 := by decide
  have l1 := put_len o1 w1 (BitVec.ofInt 64 p) b hb
  have e1 : p.tmod 64 = p := Int.tmod_eq_of_lt hp.1 hp.2
  have e2 : w64 (k * 64) = k * 64 := by rw [w64_in] <;> omega
  have e3 : w64 (p + k * 64) = p + k * 64 := by rw [w64_in] <;> omega
  have ey : (BitVec.ofInt 8 (p + k * 64)).toNat = 2 ^ 6 * k.toNat + p.toNat := by rw [BitVec.toNat_ofInt]; omega
  have ep : (BitVec.ofInt 64 p).toNat = p.toNat := by rw [BitVec.toNat_ofInt]; omega
  have ek : (BitVec.ofInt 64 k).toNat = k.toNat := by rw [BitVec.toNat_ofInt]; omega
  rw [e1, e2, e3]
  refine ext_bits (by rw [put_len o2 w2 _ _ l1, List.length_set, hb]) fun j r hj hr => ?_
  rw [List.length_set, hb] at hj
  rw [put_bit o2 w2 _ _ l1 j r hj hr, put_bit o1 w1 _ _ hb j r hj hr]
  by_cases e : j = 2
  · subst e
    have hset : bit (b.set 2 (BitVec.ofInt 8 (p + k * 64))) 2 r = (BitVec.ofInt 8 (p + k * 64)).getLsbD r := by
      unfold bit; rw [set_getD _ _ _ _ (by omega), if_pos rfl]
    have hy : (BitVec.ofInt 8 (p + k * 64)).getLsbD r = if r < 6 then p.toNat.testBit r else k.toNat.testBit (r - 6) := by
      have : (BitVec.ofInt 8 (p + k * 64)).getLsbD r = (BitVec.ofInt 8 (p + k * 64)).toNat.testBit r := rfl
      rw [this, ey, Nat.testBit_two_pow_mul_add _ (by omega)]
    have c2 : cov (2, 1, 6, 2, ()) 2 r = (decide (6 ≤ r) && decide (r < 8)) := by
      have : cov (2, 1, 6, 2, ()) 2 r = (true && (true && (true && (decide (6 ≤ 8 * 0 + r) && decide (8 * 0 + r < 6 + 2))))) := rfl
      rw [this]; simp
    have c1 : cov (2, 1, 0, 6, ()) 2 r = decide (r < 6) := by
      have : cov (2, 1, 0, 6, ()) 2 r = (true && (true && (true && (decide (0 ≤ 8 * 0 + r) && decide (8 * 0 + r < 0 + 6))))) := rfl
      rw [this]; simp
    rw [hset, hy, c1, c2]
    have q2 : posn (2, 1, 6, 2, ()) 2 r = r - 6 := by show 8 * 0 + r - 6 = _; omega
    have q1 : posn (2, 1, 0, 6, ()) 2 r = r := by show 8 * 0 + r - 0 = _; omega
    rw [q1, q2]
    have tp : (BitVec.ofInt 64 p).getLsbD r = p.toNat.testBit r := by
      have : (BitVec.ofInt 64 p).getLsbD r = (BitVec.ofInt 64 p).toNat.testBit r := rfl
      rw [this, ep]
    have tk : (BitVec.ofInt 64 k).getLsbD (r - 6) = k.toNat.testBit (r - 6) := by
      have : (BitVec.ofInt 64 k).getLsbD (r - 6) = (BitVec.ofInt 64 k).toNat.testBit (r - 6) := rfl
      rw [this, ek]
    rw [tp, tk]
    by_cases h6 : r < 6
    · simp [h6, show ¬ 6 ≤ r by omega]
    · simp [h6, show 6 ≤ r by omega, hr]
  · have c2 : cov (2, 1, 6, 2, ()) j r = false := by
      have : cov (2, 1, 6, 2, ()) j r = (true && (decide (2 ≤ j) && (decide (j < 2 + 1) && (decide (6 ≤ 8 * (2 + 1 - 1 - j) + r) && decide (8 * (2 + 1 - 1 - j) + r < 6 + 2))))) := rfl
      rw [this]
      by_cases h1 : 2 ≤ j
      · rw [decide_eq_false (show ¬ j < 2 + 1 by omega)]; simp
      · rw [decide_eq_false h1]; simp
    have c1 : cov (2, 1, 0, 6, ()) j r = false := by
      have : cov (2, 1, 0, 6, ()) j r = (true && (decide (2 ≤ j) && (decide (j < 2 + 1) && (decide (0 ≤ 8 * (2 + 1 - 1 - j) + r) && decide (8 * (2 + 1 - 1 - j) + r < 0 + 6))))) := rfl
      rw [this]
      by_cases h1 : 2 ≤ j
      · rw [decide_eq_false (show ¬ j < 2 + 1 by omega)]; simp
      · rw [decide_eq_false h1]; simp
    rw [c1, c2]
    unfold bit
    rw [set_getD _ _ _ _ (by omega), if_neg (fun h => e h.symm)]
    try rfl
def RB (c : Cmd) : Prop := ∃ B : BY, B.length ≤ 16 ∧ (Fits c → B = bytesC c) ∧ reticuleref06_Bytes c = some (finB c B)
theorem b0_raw (op : Int) (N : Nat) (h : sizeI op = (N : Int)) : (List.replicate (N : Int).toNat (0#8)).set 0 (BitVec.ofInt 8 op) = b0 op := by
  unfold b0; rw [h]
theorem put_sets (s : Span) (x : BitVec 64) (b : BY) {N : Nat} (h : okSp N s = true) (hw : 0 < s.2.1) (hb : b.length = N) : (putS s x b).length = N := put_len h hw x b hb
theorem rb_3 (a : BitVec 64) (n p k : Int) (g1 : 0 ≤ n) (g2 : 0 ≤ p) (g3 : 0 ≤ k) (g4 : k ≤ 3) (g5 : p ≤ 255) : RB (3, a, n, p, k, ()) := by
  have hl : (b0 3).length = 6 := (b0_len 3).trans (by kernel_rfl)
  have c1 : chk (inLen 4 (b0 3).length) = some () := chk_in hl (by decide)
  have l1 : ((b0 3).set 4 (BitVec.ofInt 8 n)).length = 6 := by rw [List.length_set, hl]
  refine ⟨(b0 3).set 4 (BitVec.ofInt 8 n), by rw [l1]; decide, fun hF => ?_, ?_⟩
  · have hs := fits_small hF
    simp only [shp_3] at hs
    obtain ⟨s1, s2, s3, s4⟩ := hs
    simp only [nB, Int.reduceEq, if_true, if_false, Int.reduceToNat, Nat.reduceMul, Nat.reducePow, Int.reducePow] at s1 s3 s4
    have e := same_bytes (3, a, n, p, k, ()) hF none (fun v h => by cases h) (N := 6) (by kernel_rfl) [((0, 0, 0, 0, ()), 0), ((4, 1, 0, 0, ()), 1), ((0, 0, 0, 0, ()), 2), ((0, 0, 0, 0, ()), 3), ((1, 1, 0, 1, ()), 4)] [((4, 1, 0, 0, ()), 1)] (by show bagC (shp 3) _ = _; rw [shp_3]; rfl) (by kernel_rfl) (by kernel_rfl) (by kernel_rfl)
    rw [e]
    have m1 : (b0 3).set 4 (BitVec.ofInt 8 n) = putS (4, 1, 0, 0, ()) (BitVec.ofInt 64 n) (b0 3) := set_put (N := 6) (j := 4) (by decide) (by decide) _ _ (by rw [ofInt8_64]) _ hl
    have ml1 : (putS (4, 1, 0, 0, ()) (BitVec.ofInt 64 n) (b0 3)).length = 6 := put_len (N := 6) (okSp_whole (a := 4) (w := 1) (by decide) (by decide) (by decide) (by decide)) (by decide) _ _ hl
    rw [m1]
    rfl
  · have r1 := b0_raw 3 6 (by kernel_rfl)
    have ln : (((b0 3).length : Nat) : Int) = 6 := by rw [hl]; rfl
    have d1 := decide_eq_false (show ¬ n < 0 by omega)
    have d2 := decide_eq_false (show ¬ p < 0 by omega)
    have d3 := decide_eq_false (show ¬ k < 0 by omega)
    have d4 := decide_eq_false (show ¬ 3 < k by omega)
    have d5 := decide_eq_false (show ¬ 255 < p by omega)
    have z : sizeI 3 = ((6 : Nat) : Int) := by kernel_rfl
    have kn : decide (3 ∈ ops) = true := by decide
    have cl : clsI 3 = 0 := by decide
    have lm : decide (((6 : Nat) : Int) ≤ ((lim : Nat) : Int)) = true := by decide
    have c0 : chk (inLen 0 (List.replicate ((6 : Nat) : Int).toNat (0#8)).length) = some () := by decide
    have nn : (6 : Int) = ((6 : Nat) : Int) := rfl
    unfold reticuleref06_Bytes
    simp only [(known_eq _).2, (size_eq _).2, (cls_eq _).2, z, kn, cl, Option.bind_some, Bool.not_true, cond_false, cond_true, d1, d2, d3, d4, d5, lm, c0, r1, ln, chk_true rfl, decide_true, decide_false, Bool.and_self, Int.reduceLT, Int.reduceEq, Int.reduceLE, Int.natCast_nonneg, Int.le_refl, Int.reduceToNat, c1, jn_inl]
    exact ref_fin (3, a, n, p, k, ()) _ (Nat.le_trans (Nat.le_of_eq hl) (by decide))
theorem rb_18 (a : BitVec 64) (n p k : Int) (g1 : 0 ≤ n) (g2 : 0 ≤ p) (g3 : 0 ≤ k) (g4 : k ≤ 3) (g5 : p ≤ 255) : RB (18, a, n, p, k, ()) := by
  have hl : (b0 18).length = 6 := (b0_len 18).trans (by kernel_rfl)
  have c1 : chk (inLen 1 (b0 18).length) = some () := chk_in hl (by decide)
  have l1 : ((b0 18).set 1 (BitVec.ofInt 8 (k.tmod 2))).length = 6 := by rw [List.length_set, hl]
  have c2 : chk (inLen 2 ((b0 18).set 1 (BitVec.ofInt 8 (k.tmod 2))).length) = some () := chk_in l1 (by decide)
  have l2 : (((b0 18).set 1 (BitVec.ofInt 8 (k.tmod 2))).set 2 (BitVec.ofInt 8 p)).length = 6 := by rw [List.length_set, l1]
  have c3 : reticuleref06_lay (((b0 18).set 1 (BitVec.ofInt 8 (k.tmod 2))).set 2 (BitVec.ofInt 8 p), 3, 2, BitVec.ofInt 64 n) = some (putS (3, 2, 0, 0, ()) (BitVec.ofInt 64 n) (((b0 18).set 1 (BitVec.ofInt 8 (k.tmod 2))).set 2 (BitVec.ofInt 8 p))) := lay_eq (N := 6) (a := 3) (w := 2) (by decide) (by decide) (by decide) (by decide) (by decide) _ _ l2
  have l3 : (putS (3, 2, 0, 0, ()) (BitVec.ofInt 64 n) (((b0 18).set 1 (BitVec.ofInt 8 (k.tmod 2))).set 2 (BitVec.ofInt 8 p))).length = 6 := put_len (N := 6) (okSp_whole (a := 3) (w := 2) (by decide) (by decide) (by decide) (by decide)) (by decide) _ _ l2
  refine ⟨putS (3, 2, 0, 0, ()) (BitVec.ofInt 64 n) (((b0 18).set 1 (BitVec.ofInt 8 (k.tmod 2))).set 2 (BitVec.ofInt 8 p)), by rw [l3]; decide, fun hF => ?_, ?_⟩
  · have hs := fits_small hF
    simp only [shp_18] at hs
    obtain ⟨s1, s2, s3, s4⟩ := hs
    simp only [nB, Int.reduceEq, if_true, if_false, Int.reduceToNat, Nat.reduceMul, Nat.reducePow, Int.reducePow] at s1 s3 s4
    have e := same_bytes (18, a, n, p, k, ()) hF none (fun v h => by cases h) (N := 6) (by kernel_rfl) [((0, 0, 0, 0, ()), 0), ((3, 2, 0, 0, ()), 1), ((2, 1, 0, 0, ()), 2), ((1, 1, 0, 1, ()), 3)] [((1, 1, 0, 0, ()), 3), ((2, 1, 0, 0, ()), 2), ((3, 2, 0, 0, ()), 1)] (by show bagC (shp 18) _ = _; rw [shp_18]; rfl) (by kernel_rfl) (by kernel_rfl) (by kernel_rfl)
    rw [e]
    have m1 : (b0 18).set 1 (BitVec.ofInt 8 (k.tmod 2)) = putS (1, 1, 0, 0, ()) (BitVec.ofInt 64 k) (b0 18) := set_put (N := 6) (j := 1) (by decide) (by decide) _ _ (by rw [show k.tmod 2 = k from Int.tmod_eq_of_lt s4.1 s4.2, ofInt8_64]) _ hl
    have ml1 : (putS (1, 1, 0, 0, ()) (BitVec.ofInt 64 k) (b0 18)).length = 6 := put_len (N := 6) (okSp_whole (a := 1) (w := 1) (by decide) (by decide) (by decide) (by decide)) (by decide) _ _ hl
    have m2 : (putS (1, 1, 0, 0, ()) (BitVec.ofInt 64 k) (b0 18)).set 2 (BitVec.ofInt 8 p) = putS (2, 1, 0, 0, ()) (BitVec.ofInt 64 p) (putS (1, 1, 0, 0, ()) (BitVec.ofInt 64 k) (b0 18)) := set_put (N := 6) (j := 2) (by decide) (by decide) _ _ (by rw [ofInt8_64]) _ ml1
    have ml2 : (putS (2, 1, 0, 0, ()) (BitVec.ofInt 64 p) (putS (1, 1, 0, 0, ()) (BitVec.ofInt 64 k) (b0 18))).length = 6 := put_len (N := 6) (okSp_whole (a := 2) (w := 1) (by decide) (by decide) (by decide) (by decide)) (by decide) _ _ ml1
    have ml3 : (putS (3, 2, 0, 0, ()) (BitVec.ofInt 64 n) (putS (2, 1, 0, 0, ()) (BitVec.ofInt 64 p) (putS (1, 1, 0, 0, ()) (BitVec.ofInt 64 k) (b0 18)))).length = 6 := put_len (N := 6) (okSp_whole (a := 3) (w := 2) (by decide) (by decide) (by decide) (by decide)) (by decide) _ _ ml2
    rw [m1, m2]
    rfl
  · have r1 := b0_raw 18 6 (by kernel_rfl)
    have ln : (((b0 18).length : Nat) : Int) = 6 := by rw [hl]; rfl
    have d1 := decide_eq_false (show ¬ n < 0 by omega)
    have d2 := decide_eq_false (show ¬ p < 0 by omega)
    have d3 := decide_eq_false (show ¬ k < 0 by omega)
    have d4 := decide_eq_false (show ¬ 3 < k by omega)
    have d5 := decide_eq_false (show ¬ 255 < p by omega)
    have z : sizeI 18 = ((6 : Nat) : Int) := by kernel_rfl
    have kn : decide (18 ∈ ops) = true := by decide
    have cl : clsI 18 = 0 := by decide
    have lm : decide (((6 : Nat) : Int) ≤ ((lim : Nat) : Int)) = true := by decide
    have c0 : chk (inLen 0 (List.replicate ((6 : Nat) : Int).toNat (0#8)).length) = some () := by decide
    have nn : (6 : Int) = ((6 : Nat) : Int) := rfl
    unfold reticuleref06_Bytes
    simp only [(known_eq _).2, (size_eq _).2, (cls_eq _).2, z, kn, cl, Option.bind_some, Bool.not_true, cond_false, cond_true, d1, d2, d3, d4, d5, lm, c0, r1, ln, chk_true rfl, decide_true, decide_false, Bool.and_self, Int.reduceLT, Int.reduceEq, Int.reduceLE, Int.natCast_nonneg, Int.le_refl, Int.reduceToNat, c1, c2, c3, jn_inl]
    exact ref_fin (18, a, n, p, k, ()) _ (Nat.le_trans (Nat.le_of_eq hl) (by decide))
theorem rb_21 (a : BitVec 64) (n p k : Int) (g1 : 0 ≤ n) (g2 : 0 ≤ p) (g3 : 0 ≤ k) (g4 : k ≤ 3) (g5 : p ≤ 255) : RB (21, a, n, p, k, ()) := by
  have hl : (b0 21).length = 6 := (b0_len 21).trans (by kernel_rfl)
  have c1 : chk (inLen 1 (b0 21).length) = some () := chk_in hl (by decide)
  have l1 : ((b0 21).set 1 (16#8)).length = 6 := by rw [List.length_set, hl]
  have c2 : chk (inLen 4 ((b0 21).set 1 (16#8)).length) = some () := chk_in l1 (by decide)
  have l2 : (((b0 21).set 1 (16#8)).set 4 (BitVec.ofInt 8 n)).length = 6 := by rw [List.length_set, l1]
  refine ⟨((b0 21).set 1 (16#8)).set 4 (BitVec.ofInt 8 n), by rw [l2]; decide, fun hF => ?_, ?_⟩
  · have hs := fits_small hF
    simp only [shp_21] at hs
    obtain ⟨s1, s2, s3, s4⟩ := hs
    simp only [nB, Int.reduceEq, if_true, if_false, Int.reduceToNat, Nat.reduceMul, Nat.reducePow, Int.reducePow] at s1 s3 s4
    have e := same_bytes (21, a, n, p, k, ()) hF none (fun v h => by cases h) (N := 6) (by kernel_rfl) [((0, 0, 0, 0, ()), 0), ((4, 1, 0, 0, ()), 1), ((0, 0, 0, 0, ()), 2), ((0, 0, 0, 0, ()), 3), ((1, 1, 4, 1, ()), 5), ((1, 1, 0, 1, ()), 4)] [((1, 1, 0, 0, ()), 6), ((4, 1, 0, 0, ()), 1)] (by show bagC (shp 21) _ = _; rw [shp_21]; rfl) (by kernel_rfl) (by kernel_rfl) (by kernel_rfl)
    rw [e]
    have m1 : (b0 21).set 1 (16#8) = putS (1, 1, 0, 0, ()) (16#64) (b0 21) := set_put (N := 6) (j := 1) (by decide) (by decide) _ _ (by decide) _ hl
    have ml1 : (putS (1, 1, 0, 0, ()) (16#64) (b0 21)).length = 6 := put_len (N := 6) (okSp_whole (a := 1) (w := 1) (by decide) (by decide) (by decide) (by decide)) (by decide) _ _ hl
    have m2 : (putS (1, 1, 0, 0, ()) (16#64) (b0 21)).set 4 (BitVec.ofInt 8 n) = putS (4, 1, 0, 0, ()) (BitVec.ofInt 64 n) (putS (1, 1, 0, 0, ()) (16#64) (b0 21)) := set_put (N := 6) (j := 4) (by decide) (by decide) _ _ (by rw [ofInt8_64]) _ ml1
    have ml2 : (putS (4, 1, 0, 0, ()) (BitVec.ofInt 64 n) (putS (1, 1, 0, 0, ()) (16#64) (b0 21))).length = 6 := put_len (N := 6) (okSp_whole (a := 4) (w := 1) (by decide) (by decide) (by decide) (by decide)) (by decide) _ _ ml1
    rw [m1, m2]
    rfl
  · have r1 := b0_raw 21 6 (by kernel_rfl)
    have ln : (((b0 21).length : Nat) : Int) = 6 := by rw [hl]; rfl
    have d1 := decide_eq_false (show ¬ n < 0 by omega)
    have d2 := decide_eq_false (show ¬ p < 0 by omega)
    have d3 := decide_eq_false (show ¬ k < 0 by omega)
    have d4 := decide_eq_false (show ¬ 3 < k by omega)
    have d5 := decide_eq_false (show ¬ 255 < p by omega)
    have z : sizeI 21 = ((6 : Nat) : Int) := by kernel_rfl
    have kn : decide (21 ∈ ops) = true := by decide
    have cl : clsI 21 = 0 := by decide
    have lm : decide (((6 : Nat) : Int) ≤ ((lim : Nat) : Int)) = true := by decide
    have c0 : chk (inLen 0 (List.replicate ((6 : Nat) : Int).toNat (0#8)).length) = some () := by decide
    have nn : (6 : Int) = ((6 : Nat) : Int) := rfl
    unfold reticuleref06_Bytes
    simp only [(known_eq _).2, (size_eq _).2, (cls_eq _).2, z, kn, cl, Option.bind_some, Bool.not_true, cond_false, cond_true, d1, d2, d3, d4, d5, lm, c0, r1, ln, chk_true rfl, decide_true, decide_false, Bool.and_self, Int.reduceLT, Int.reduceEq, Int.reduceLE, Int.natCast_nonneg, Int.le_refl, Int.reduceToNat, c1, c2, jn_inl]
    exact ref_fin (21, a, n, p, k, ()) _ (Nat.le_trans (Nat.le_of_eq hl) (by decide))
theorem rb_85 (a : BitVec 64) (n p k : Int) (g1 : 0 ≤ n) (g2 : 0 ≤ p) (g3 : 0 ≤ k) (g4 : k ≤ 3) (g5 : p ≤ 255) : RB (85, a, n, p, k, ()) := by
  have hl : (b0 85).length = 10 := (b0_len 85).trans (by kernel_rfl)
  have c1 : chk (inLen 1 (b0 85).length) = some () := chk_in hl (by decide)
  have l1 : ((b0 85).set 1 (16#8)).length = 10 := by rw [List.length_set, hl]
  have c2 : reticuleref06_lay ((b0 85).set 1 (16#8), 7, 2, BitVec.ofInt 64 n) = some (putS (7, 2, 0, 0, ()) (BitVec.ofInt 64 n) ((b0 85).set 1 (16#8))) := lay_eq (N := 10) (a := 7) (w := 2) (by decide) (by decide) (by decide) (by decide) (by decide) _ _ l1
  have l2 : (putS (7, 2, 0, 0, ()) (BitVec.ofInt 64 n) ((b0 85).set 1 (16#8))).length = 10 := put_len (N := 10) (okSp_whole (a := 7) (w := 2) (by decide) (by decide) (by decide) (by decide)) (by decide) _ _ l1
  refine ⟨putS (7, 2, 0, 0, ()) (BitVec.ofInt 64 n) ((b0 85).set 1 (16#8)), by rw [l2]; decide, fun hF => ?_, ?_⟩
  · have hs := fits_small hF
    simp only [shp_85] at hs
    obtain ⟨s1, s2, s3, s4⟩ := hs
    simp only [nB, Int.reduceEq, if_true, if_false, Int.reduceToNat, Nat.reduceMul, Nat.reducePow, Int.reducePow] at s1 s3 s4
    have e := same_bytes (85, a, n, p, k, ()) hF none (fun v h => by cases h) (N := 10) (by kernel_rfl) [((0, 0, 0, 0, ()), 0), ((7, 2, 0, 0, ()), 1), ((0, 0, 0, 0, ()), 2), ((0, 0, 0, 0, ()), 3), ((1, 1, 4, 1, ()), 5), ((1, 1, 0, 1, ()), 4)] [((1, 1, 0, 0, ()), 6), ((7, 2, 0, 0, ()), 1)] (by show bagC (shp 85) _ = _; rw [shp_85]; rfl) (by kernel_rfl) (by kernel_rfl) (by kernel_rfl)
    rw [e]
    have m1 : (b0 85).set 1 (16#8) = putS (1, 1, 0, 0, ()) (16#64) (b0 85) := set_put (N := 10) (j := 1) (by decide) (by decide) _ _ (by decide) _ hl
    have ml1 : (putS (1, 1, 0, 0, ()) (16#64) (b0 85)).length = 10 := put_len (N := 10) (okSp_whole (a := 1) (w := 1) (by decide) (by decide) (by decide) (by decide)) (by decide) _ _ hl
    have ml2 : (putS (7, 2, 0, 0, ()) (BitVec.ofInt 64 n) (putS (1, 1, 0, 0, ()) (16#64) (b0 85))).length = 10 := put_len (N := 10) (okSp_whole (a := 7) (w := 2) (by decide) (by decide) (by decide) (by decide)) (by decide) _ _ ml1
    rw [m1]
    rfl
  · have r1 := b0_raw 85 10 (by kernel_rfl)
    have ln : (((b0 85).length : Nat) : Int) = 10 := by rw [hl]; rfl
    have d1 := decide_eq_false (show ¬ n < 0 by omega)
    have d2 := decide_eq_false (show ¬ p < 0 by omega)
    have d3 := decide_eq_false (show ¬ k < 0 by omega)
    have d4 := decide_eq_false (show ¬ 3 < k by omega)
    have d5 := decide_eq_false (show ¬ 255 < p by omega)
    have z : sizeI 85 = ((10 : Nat) : Int) := by kernel_rfl
    have kn : decide (85 ∈ ops) = true := by decide
    have cl : clsI 85 = 0 := by decide
    have lm : decide (((10 : Nat) : Int) ≤ ((lim : Nat) : Int)) = true := by decide
    have c0 : chk (inLen 0 (List.replicate ((10 : Nat) : Int).toNat (0#8)).length) = some () := by decide
    have nn : (10 : Int) = ((10 : Nat) : Int) := rfl
    unfold reticuleref06_Bytes
    simp only [(known_eq _).2, (size_eq _).2, (cls_eq _).2, z, kn, cl, Option.bind_some, Bool.not_true, cond_false, cond_true, d1, d2, d3, d4, d5, lm, c0, r1, ln, chk_true rfl, decide_true, decide_false, Bool.and_self, Int.reduceLT, Int.reduceEq, Int.reduceLE, Int.natCast_nonneg, Int.le_refl, Int.reduceToNat, c1, c2, jn_inl]
    exact ref_fin (85, a, n, p, k, ()) _ (Nat.le_trans (Nat.le_of_eq hl) (by decide))
theorem rb_26 (a : BitVec 64) (n p k : Int) (g1 : 0 ≤ n) (g2 : 0 ≤ p) (g3 : 0 ≤ k) (g4 : k ≤ 3) (g5 : p ≤ 255) : RB (26, a, n, p, k, ()) := by
  have hl : (b0 26).length = 6 := (b0_len 26).trans (by kernel_rfl)
  have c1 : chk (inLen 2 (b0 26).length) = some () := chk_in hl (by decide)
  have l1 : ((b0 26).set 2 (BitVec.ofInt 8 (w64 (p.tmod 64 + w64 (k * 64))))).length = 6 := by rw [List.length_set, hl]
  have c2 : chk (inLen 4 ((b0 26).set 2 (BitVec.ofInt 8 (w64 (p.tmod 64 + w64 (k * 64))))).length) = some () := chk_in l1 (by decide)
  have l2 : (((b0 26).set 2 (BitVec.ofInt 8 (w64 (p.tmod 64 + w64 (k * 64))))).set 4 (BitVec.ofInt 8 n)).length = 6 := by rw [List.length_set, l1]
  refine ⟨((b0 26).set 2 (BitVec.ofInt 8 (w64 (p.tmod 64 + w64 (k * 64))))).set 4 (BitVec.ofInt 8 n), by rw [l2]; decide, fun hF => ?_, ?_⟩
  · have hs := fits_small hF
    simp only [shp_26] at hs
    obtain ⟨s1, s2, s3, s4⟩ := hs
    simp only [nB, Int.reduceEq, if_true, if_false, Int.reduceToNat, Nat.reduceMul, Nat.reducePow, Int.reducePow] at s1 s3 s4
    have e := same_bytes (26, a, n, p, k, ()) hF none (fun v h => by cases h) (N := 6) (by kernel_rfl) [((0, 0, 0, 0, ()), 0), ((4, 1, 0, 0, ()), 1), ((2, 1, 0, 6, ()), 2), ((2, 1, 6, 2, ()), 3), ((3, 1, 0, 0, ()), 4)] [((2, 1, 0, 6, ()), 2), ((2, 1, 6, 2, ()), 3), ((4, 1, 0, 0, ()), 1)] (by show bagC (shp 26) _ = _; rw [shp_26]; rfl) (by kernel_rfl) (by kernel_rfl) (by kernel_rfl)
    rw [e]
    have m1 : (b0 26).set 2 (BitVec.ofInt 8 (w64 (p.tmod 64 + w64 (k * 64)))) = putS (2, 1, 6, 2, ()) (BitVec.ofInt 64 k) (putS (2, 1, 0, 6, ()) (BitVec.ofInt 64 p) (b0 26)) := set_two (N := 6) (by decide) p k s3 s4 _ hl (b0_zero 26 2 (by decide))
    have ml1 : (putS (2, 1, 6, 2, ()) (BitVec.ofInt 64 k) (putS (2, 1, 0, 6, ()) (BitVec.ofInt 64 p) (b0 26))).length = 6 := by rw [← m1, List.length_set, hl]
    have m2 : (putS (2, 1, 6, 2, ()) (BitVec.ofInt 64 k) (putS (2, 1, 0, 6, ()) (BitVec.ofInt 64 p) (b0 26))).set 4 (BitVec.ofInt 8 n) = putS (4, 1, 0, 0, ()) (BitVec.ofInt 64 n) (putS (2, 1, 6, 2, ()) (BitVec.ofInt 64 k) (putS (2, 1, 0, 6, ()) (BitVec.ofInt 64 p) (b0 26))) := set_put (N := 6) (j := 4) (by decide) (by decide) _ _ (by rw [ofInt8_64]) _ ml1
    have ml2 : (putS (4, 1, 0, 0, ()) (BitVec.ofInt 64 n) (putS (2, 1, 6, 2, ()) (BitVec.ofInt 64 k) (putS (2, 1, 0, 6, ()) (BitVec.ofInt 64 p) (b0 26)))).length = 6 := put_len (N := 6) (okSp_whole (a := 4) (w := 1) (by decide) (by decide) (by decide) (by decide)) (by decide) _ _ ml1
    rw [m1, m2]
    rfl
  · have r1 := b0_raw 26 6 (by kernel_rfl)
    have ln : (((b0 26).length : Nat) : Int) = 6 := by rw [hl]; rfl
    have d1 := decide_eq_false (show ¬ n < 0 by omega)
    have d2 := decide_eq_false (show ¬ p < 0 by omega)
    have d3 := decide_eq_false (show ¬ k < 0 by omega)
    have d4 := decide_eq_false (show ¬ 3 < k by omega)
    have d5 := decide_eq_false (show ¬ 255 < p by omega)
    have z : sizeI 26 = ((6 : Nat) : Int) := by kernel_rfl
    have kn : decide (26 ∈ ops) = true := by decide
    have cl : clsI 26 = 0 := by decide
    have lm : decide (((6 : Nat) : Int) ≤ ((lim : Nat) : Int)) = true := by decide
    have c0 : chk (inLen 0 (List.replicate ((6 : Nat) : Int).toNat (0#8)).length) = some () := by decide
    have nn : (6 : Int) = ((6 : Nat) : Int) := rfl
    unfold reticuleref06_Bytes
    simp only [(known_eq _).2, (size_eq _).2, (cls_eq _).2, z, kn, cl, Option.bind_some, Bool.not_true, cond_false, cond_true, d1, d2, d3, d4, d5, lm, c0, r1, ln, chk_true rfl, decide_true, decide_false, Bool.and_self, Int.reduceLT, Int.reduceEq, Int.reduceLE, Int.natCast_nonneg, Int.le_refl, Int.reduceToNat, c1, c2, jn_inl]
    exact ref_fin (26, a, n, p, k, ()) _ (Nat.le_trans (Nat.le_of_eq hl) (by decide))
theorem rb_90 (a : BitVec 64) (n p k : Int) (g1 : 0 ≤ n) (g2 : 0 ≤ p) (g3 : 0 ≤ k) (g4 : k ≤ 3) (g5 : p ≤ 255) : RB (90, a, n, p, k, ()) := by
  have hl : (b0 90).length = 10 := (b0_len 90).trans (by kernel_rfl)
  have c1 : chk (inLen 2 (b0 90).length) = some () := chk_in hl (by decide)
  have l1 : ((b0 90).set 2 (BitVec.ofInt 8 (w64 (p.tmod 64 + w64 (k * 64))))).length = 10 := by rw [List.length_set, hl]
  have c2 : reticuleref06_lay ((b0 90).set 2 (BitVec.ofInt 8 (w64 (p.tmod 64 + w64 (k * 64)))), 7, 2, BitVec.ofInt 64 n) = some (putS (7, 2, 0, 0, ()) (BitVec.ofInt 64 n) ((b0 90).set 2 (BitVec.ofInt 8 (w64 (p.tmod 64 + w64 (k * 64)))))) := lay_eq (N := 10) (a := 7) (w := 2) (by decide) (by decide) (by decide) (by decide) (by decide) _ _ l1
  have l2 : (putS (7, 2, 0, 0, ()) (BitVec.ofInt 64 n) ((b0 90).set 2 (BitVec.ofInt 8 (w64 (p.tmod 64 + w64 (k * 64)))))).length = 10 := put_len (N := 10) (okSp_whole (a := 7) (w := 2) (by decide) (by decide) (by decide) (by decide)) (by decide) _ _ l1
  refine ⟨putS (7, 2, 0, 0, ()) (BitVec.ofInt 64 n) ((b0 90).set 2 (BitVec.ofInt 8 (w64 (p.tmod 64 + w64 (k * 64))))), by rw [l2]; decide, fun hF => ?_, ?_⟩
  · have hs := fits_small hF
    simp only [shp_90] at hs
    obtain ⟨s1, s2, s3, s4⟩ := hs
    simp only [nB, Int.reduceEq, if_true, if_false, Int.reduceToNat, Nat.reduceMul, Nat.reducePow, Int.reducePow] at s1 s3 s4
    have e := same_bytes (90, a, n, p, k, ()) hF none (fun v h => by cases h) (N := 10) (by kernel_rfl) [((0, 0, 0, 0, ()), 0), ((7, 2, 0, 0, ()), 1), ((2, 1, 0, 6, ()), 2), ((2, 1, 6, 2, ()), 3), ((3, 1, 0, 0, ()), 4)] [((2, 1, 0, 6, ()), 2), ((2, 1, 6, 2, ()), 3), ((7, 2, 0, 0, ()), 1)] (by show bagC (shp 90) _ = _; rw [shp_90]; rfl) (by kernel_rfl) (by kernel_rfl) (by kernel_rfl)
    rw [e]
    have m1 : (b0 90).set 2 (BitVec.ofInt 8 (w64 (p.tmod 64 + w64 (k * 64)))) = putS (2, 1, 6, 2, ()) (BitVec.ofInt 64 k) (putS (2, 1, 0, 6, ()) (BitVec.ofInt 64 p) (b0 90)) := set_two (N := 10) (by decide) p k s3 s4 _ hl (b0_zero 90 2 (by decide))
    have ml1 : (putS (2, 1, 6, 2, ()) (BitVec.ofInt 64 k) (putS (2, 1, 0, 6, ()) (BitVec.ofInt 64 p) (b0 90))).length = 10 := by rw [← m1, List.length_set, hl]
    have ml2 : (putS (7, 2, 0, 0, ()) (BitVec.ofInt 64 n) (putS (2, 1, 6, 2, ()) (BitVec.ofInt 64 k) (putS (2, 1, 0, 6, ()) (BitVec.ofInt 64 p) (b0 90)))).length = 10 := put_len (N := 10) (okSp_whole (a := 7) (w := 2) (by decide) (by decide) (by decide) (by decide)) (by decide) _ _ ml1
    rw [m1]
    rfl
  · have r1 := b0_raw 90 10 (by kernel_rfl)
    have ln : (((b0 90).length : Nat) : Int) = 10 := by rw [hl]; rfl
    have d1 := decide_eq_false (show ¬ n < 0 by omega)
    have d2 := decide_eq_false (show ¬ p < 0 by omega)
    have d3 := decide_eq_false (show ¬ k < 0 by omega)
    have d4 := decide_eq_false (show ¬ 3 < k by omega)
    have d5 := decide_eq_false (show ¬ 255 < p by omega)
    have z : sizeI 90 = ((10 : Nat) : Int) := by kernel_rfl
    have kn : decide (90 ∈ ops) = true := by decide
    have cl : clsI 90 = 0 := by decide
    have lm : decide (((10 : Nat) : Int) ≤ ((lim : Nat) : Int)) = true := by decide
    have c0 : chk (inLen 0 (List.replicate ((10 : Nat) : Int).toNat (0#8)).length) = some () := by decide
    have nn : (10 : Int) = ((10 : Nat) : Int) := rfl
    unfold reticuleref06_Bytes
    simp only [(known_eq _).2, (size_eq _).2, (cls_eq _).2, z, kn, cl, Option.bind_some, Bool.not_true, cond_false, cond_true, d1, d2, d3, d4, d5, lm, c0, r1, ln, chk_true rfl, decide_true, decide_false, Bool.and_self, Int.reduceLT, Int.reduceEq, Int.reduceLE, Int.natCast_nonneg, Int.le_refl, Int.reduceToNat, c1, c2, jn_inl]
    exact ref_fin (90, a, n, p, k, ()) _ (Nat.le_trans (Nat.le_of_eq hl) (by decide))
theorem rb_27 (a : BitVec 64) (n p k : Int) (g1 : 0 ≤ n) (g2 : 0 ≤ p) (g3 : 0 ≤ k) (g4 : k ≤ 3) (g5 : p ≤ 255) : RB (27, a, n, p, k, ()) := by
  have hl : (b0 27).length = 6 := (b0_len 27).trans (by kernel_rfl)
  have c1 : chk (inLen 4 (b0 27).length) = some () := chk_in hl (by decide)
  have l1 : ((b0 27).set 4 (BitVec.ofInt 8 k)).length = 6 := by rw [List.length_set, hl]
  refine ⟨(b0 27).set 4 (BitVec.ofInt 8 k), by rw [l1]; decide, fun hF => ?_, ?_⟩
  · have hs := fits_small hF
    simp only [shp_27] at hs
    obtain ⟨s1, s2, s3, s4⟩ := hs
    simp only [nB, Int.reduceEq, if_true, if_false, Int.reduceToNat, Nat.reduceMul, Nat.reducePow, Int.reducePow] at s1 s3 s4
    have e := same_bytes (27, a, n, p, k, ()) hF none (fun v h => by cases h) (N := 6) (by kernel_rfl) [((0, 0, 0, 0, ()), 0), ((0, 0, 0, 0, ()), 1), ((0, 0, 0, 0, ()), 2), ((4, 1, 0, 2, ()), 3), ((4, 1, 4, 4, ()), 4)] [((4, 1, 0, 0, ()), 3)] (by show bagC (shp 27) _ = _; rw [shp_27]; rfl) (by kernel_rfl) (by kernel_rfl) (by kernel_rfl)
    rw [e]
    have m1 : (b0 27).set 4 (BitVec.ofInt 8 k) = putS (4, 1, 0, 0, ()) (BitVec.ofInt 64 k) (b0 27) := set_put (N := 6) (j := 4) (by decide) (by decide) _ _ (by rw [ofInt8_64]) _ hl
    have ml1 : (putS (4, 1, 0, 0, ()) (BitVec.ofInt 64 k) (b0 27)).length = 6 := put_len (N := 6) (okSp_whole (a := 4) (w := 1) (by decide) (by decide) (by decide) (by decide)) (by decide) _ _ hl
    rw [m1]
    rfl
  · have r1 := b0_raw 27 6 (by kernel_rfl)
    have ln : (((b0 27).length : Nat) : Int) = 6 := by rw [hl]; rfl
    have d1 := decide_eq_false (show ¬ n < 0 by omega)
    have d2 := decide_eq_false (show ¬ p < 0 by omega)
    have d3 := decide_eq_false (show ¬ k < 0 by omega)
    have d4 := decide_eq_false (show ¬ 3 < k by omega)
    have d5 := decide_eq_false (show ¬ 255 < p by omega)
    have z : sizeI 27 = ((6 : Nat) : Int) := by kernel_rfl
    have kn : decide (27 ∈ ops) = true := by decide
    have cl : clsI 27 = 0 := by decide
    have lm : decide (((6 : Nat) : Int) ≤ ((lim : Nat) : Int)) = true := by decide
    have c0 : chk (inLen 0 (List.replicate ((6 : Nat) : Int).toNat (0#8)).length) = some () := by decide
    have nn : (6 : Int) = ((6 : Nat) : Int) := rfl
    unfold reticuleref06_Bytes
    simp only [(known_eq _).2, (size_eq _).2, (cls_eq _).2, z, kn, cl, Option.bind_some, Bool.not_true, cond_false, cond_true, d1, d2, d3, d4, d5, lm, c0, r1, ln, chk_true rfl, decide_true, decide_false, Bool.and_self, Int.reduceLT, Int.reduceEq, Int.reduceLE, Int.natCast_nonneg, Int.le_refl, Int.reduceToNat, c1, jn_inl]
    exact ref_fin (27, a, n, p, k, ()) _ (Nat.le_trans (Nat.le_of_eq hl) (by decide))
theorem rb_30 (a : BitVec 64) (n p k : Int) (g1 : 0 ≤ n) (g2 : 0 ≤ p) (g3 : 0 ≤ k) (g4 : k ≤ 3) (g5 : p ≤ 255) : RB (30, a, n, p, k, ()) := by
  have hl : (b0 30).length = 6 := (b0_len 30).trans (by kernel_rfl)
  have c1 : chk (inLen 4 (b0 30).length) = some () := chk_in hl (by decide)
  have l1 : ((b0 30).set 4 (BitVec.ofInt 8 k)).length = 6 := by rw [List.length_set, hl]
  refine ⟨(b0 30).set 4 (BitVec.ofInt 8 k), by rw [l1]; decide, fun hF => ?_, ?_⟩
  · have hs := fits_small hF
    simp only [shp_30] at hs
    obtain ⟨s1, s2, s3, s4⟩ := hs
    simp only [nB, Int.reduceEq, if_true, if_false, Int.reduceToNat, Nat.reduceMul, Nat.reducePow, Int.reducePow] at s1 s3 s4
    have e := same_bytes (30, a, n, p, k, ()) hF none (fun v h => by cases h) (N := 6) (by kernel_rfl) [((0, 0, 0, 0, ()), 0), ((0, 0, 0, 0, ()), 1), ((0, 0, 0, 0, ()), 2), ((4, 1, 0, 2, ()), 3)] [((4, 1, 0, 0, ()), 3)] (by show bagC (shp 30) _ = _; rw [shp_30]; rfl) (by kernel_rfl) (by kernel_rfl) (by kernel_rfl)
    rw [e]
    have m1 : (b0 30).set 4 (BitVec.ofInt 8 k) = putS (4, 1, 0, 0, ()) (BitVec.ofInt 64 k) (b0 30) := set_put (N := 6) (j := 4) (by decide) (by decide) _ _ (by rw [ofInt8_64]) _ hl
    have ml1 : (putS (4, 1, 0, 0, ()) (BitVec.ofInt 64 k) (b0 30)).length = 6 := put_len (N := 6) (okSp_whole (a := 4) (w := 1) (by decide) (by decide) (by decide) (by decide)) (by decide) _ _ hl
    rw [m1]
    rfl
  · have r1 := b0_raw 30 6 (by kernel_rfl)
    have ln : (((b0 30).length : Nat) : Int) = 6 := by rw [hl]; rfl
    have d1 := decide_eq_false (show ¬ n < 0 by omega)
    have d2 := decide_eq_false (show ¬ p < 0 by omega)
    have d3 := decide_eq_false (show ¬ k < 0 by omega)
    have d4 := decide_eq_false (show ¬ 3 < k by omega)
    have d5 := decide_eq_false (show ¬ 255 < p by omega)
    have z : sizeI 30 = ((6 : Nat) : Int) := by kernel_rfl
    have kn : decide (30 ∈ ops) = true := by decide
    have cl : clsI 30 = 0 := by decide
    have lm : decide (((6 : Nat) : Int) ≤ ((lim : Nat) : Int)) = true := by decide
    have c0 : chk (inLen 0 (List.replicate ((6 : Nat) : Int).toNat (0#8)).length) = some () := by decide
    have nn : (6 : Int) = ((6 : Nat) : Int) := rfl
    unfold reticuleref06_Bytes
    simp only [(known_eq _).2, (size_eq _).2, (cls_eq _).2, z, kn, cl, Option.bind_some, Bool.not_true, cond_false, cond_true, d1, d2, d3, d4, d5, lm, c0, r1, ln, chk_true rfl, decide_true, decide_false, Bool.and_self, Int.reduceLT, Int.reduceEq, Int.reduceLE, Int.natCast_nonneg, Int.le_refl, Int.reduceToNat, c1, jn_inl]
    exact ref_fin (30, a, n, p, k, ()) _ (Nat.le_trans (Nat.le_of_eq hl) (by decide))
theorem rb_37 (a : BitVec 64) (n p k : Int) (g1 : 0 ≤ n) (g2 : 0 ≤ p) (g3 : 0 ≤ k) (g4 : k ≤ 3) (g5 : p ≤ 255) : RB (37, a, n, p, k, ()) := by
  have hl : (b0 37).length = 10 := (b0_len 37).trans (by kernel_rfl)
  refine ⟨b0 37, by rw [hl]; decide, fun hF => ?_, ?_⟩
  · have hs := fits_small hF
    simp only [shp_37] at hs
    obtain ⟨s1, s2, s3, s4⟩ := hs
    simp only [nB, Int.reduceEq, if_true, if_false, Int.reduceToNat, Nat.reduceMul, Nat.reducePow, Int.reducePow] at s1 s3 s4
    have e := same_bytes (37, a, n, p, k, ()) hF none (fun v h => by cases h) (N := 10) (by kernel_rfl) [((0, 0, 0, 0, ()), 0), ((0, 0, 0, 0, ()), 1), ((0, 0, 0, 0, ()), 2), ((0, 0, 0, 0, ()), 3), ((2, 4, 0, 0, ()), 4), ((8, 1, 0, 1, ()), 4)] [] (by show bagC (shp 37) _ = _; rw [shp_37]; rfl) (by kernel_rfl) (by kernel_rfl) (by kernel_rfl)
    rw [e]
    rfl
  · have r1 := b0_raw 37 10 (by kernel_rfl)
    have ln : (((b0 37).length : Nat) : Int) = 10 := by rw [hl]; rfl
    have d1 := decide_eq_false (show ¬ n < 0 by omega)
    have d2 := decide_eq_false (show ¬ p < 0 by omega)
    have d3 := decide_eq_false (show ¬ k < 0 by omega)
    have d4 := decide_eq_false (show ¬ 3 < k by omega)
    have d5 := decide_eq_false (show ¬ 255 < p by omega)
    have z : sizeI 37 = ((10 : Nat) : Int) := by kernel_rfl
    have kn : decide (37 ∈ ops) = true := by decide
    have cl : clsI 37 = 0 := by decide
    have lm : decide (((10 : Nat) : Int) ≤ ((lim : Nat) : Int)) = true := by decide
    have c0 : chk (inLen 0 (List.replicate ((10 : Nat) : Int).toNat (0#8)).length) = some () := by decide
    have nn : (10 : Int) = ((10 : Nat) : Int) := rfl
    unfold reticuleref06_Bytes
    simp only [(known_eq _).2, (size_eq _).2, (cls_eq _).2, z, kn, cl, Option.bind_some, Bool.not_true, cond_false, cond_true, d1, d2, d3, d4, d5, lm, c0, r1, ln, chk_true rfl, decide_true, decide_false, Bool.and_self, Int.reduceLT, Int.reduceEq, Int.reduceLE, Int.natCast_nonneg, Int.le_refl, Int.reduceToNat, jn_inl]
    exact ref_fin (37, a, n, p, k, ()) _ (Nat.le_trans (Nat.le_of_eq hl) (by decide))
theorem rb_0 (a : BitVec 64) (n p k : Int) (g1 : 0 ≤ n) (g2 : 0 ≤ p) (g3 : 0 ≤ k) (g4 : k ≤ 3) (g5 : p ≤ 255) : RB (0, a, n, p, k, ()) := by
  have hl : (b0 0).length = 6 := (b0_len 0).trans (by kernel_rfl)
  refine ⟨b0 0, by rw [hl]; decide, fun hF => ?_, ?_⟩
  · have hs := fits_small hF
    simp only [shp_0] at hs
    obtain ⟨s1, s2, s3, s4⟩ := hs
    simp only [nB, Int.reduceEq, if_true, if_false, Int.reduceToNat, Nat.reduceMul, Nat.reducePow, Int.reducePow] at s1 s3 s4
    have e := same_bytes (0, a, n, p, k, ()) hF none (fun v h => by cases h) (N := 6) (by kernel_rfl) [((0, 0, 0, 0, ()), 0), ((0, 0, 0, 0, ()), 1), ((0, 0, 0, 0, ()), 2), ((0, 0, 0, 0, ()), 3)] [] (by show bagC (shp 0) _ = _; rw [shp_0]; rfl) (by kernel_rfl) (by kernel_rfl) (by kernel_rfl)
    rw [e]
    rfl
  · have r1 := b0_raw 0 6 (by kernel_rfl)
    have ln : (((b0 0).length : Nat) : Int) = 6 := by rw [hl]; rfl
    have d1 := decide_eq_false (show ¬ n < 0 by omega)
    have d2 := decide_eq_false (show ¬ p < 0 by omega)
    have d3 := decide_eq_false (show ¬ k < 0 by omega)
    have d4 := decide_eq_false (show ¬ 3 < k by omega)
    have d5 := decide_eq_false (show ¬ 255 < p by omega)
    have z : sizeI 0 = ((6 : Nat) : Int) := by kernel_rfl
    have kn : decide (0 ∈ ops) = true := by decide
    have cl : clsI 0 = 0 := by decide
    have lm : decide (((6 : Nat) : Int) ≤ ((lim : Nat) : Int)) = true := by decide
    have c0 : chk (inLen 0 (List.replicate ((6 : Nat) : Int).toNat (0#8)).length) = some () := by decide
    have nn : (6 : Int) = ((6 : Nat) : Int) := rfl
    unfold reticuleref06_Bytes
    simp only [(known_eq _).2, (size_eq _).2, (cls_eq _).2, z, kn, cl, Option.bind_some, Bool.not_true, cond_false, cond_true, d1, d2, d3, d4, d5, lm, c0, r1, ln, chk_true rfl, decide_true, decide_false, Bool.and_self, Int.reduceLT, Int.reduceEq, Int.reduceLE, Int.natCast_nonneg, Int.le_refl, Int.reduceToNat, jn_inl]
    exact ref_fin (0, a, n, p, k, ()) _ (Nat.le_trans (Nat.le_of_eq hl) (by decide))
theorem rb_158 (a : BitVec 64) (n p k : Int) (g1 : 0 ≤ n) (g2 : 0 ≤ p) (g3 : 0 ≤ k) (g4 : k ≤ 3) (g5 : p ≤ 255) : RB (158, a, n, p, k, ()) := by
  have hl : (b0 158).length = 16 := (b0_len 158).trans (by kernel_rfl)
  have c1 : chk (inLen 1 (b0 158).length) = some () := chk_in hl (by decide)
  have l1 : ((b0 158).set 1 (16#8)).length = 16 := by rw [List.length_set, hl]
  have c2 : reticuleref06_lay ((b0 158).set 1 (16#8), 10, 4, BitVec.ofInt 64 n) = some (putS (10, 4, 0, 0, ()) (BitVec.ofInt 64 n) ((b0 158).set 1 (16#8))) := lay_eq (N := 16) (a := 10) (w := 4) (by decide) (by decide) (by decide) (by decide) (by decide) _ _ l1
  have l2 : (putS (10, 4, 0, 0, ()) (BitVec.ofInt 64 n) ((b0 158).set 1 (16#8))).length = 16 := put_len (N := 16) (okSp_whole (a := 10) (w := 4) (by decide) (by decide) (by decide) (by decide)) (by decide) _ _ l1
  refine ⟨putS (10, 4, 0, 0, ()) (BitVec.ofInt 64 n) ((b0 158).set 1 (16#8)), by rw [l2]; decide, fun hF => ?_, ?_⟩
  · have hs := fits_small hF
    simp only [shp_158] at hs
    obtain ⟨s1, s2, s3, s4⟩ := hs
    simp only [nB, Int.reduceEq, if_true, if_false, Int.reduceToNat, Nat.reduceMul, Nat.reducePow, Int.reducePow] at s1 s3 s4
    have e := same_bytes (158, a, n, p, k, ()) hF none (fun v h => by cases h) (N := 16) (by kernel_rfl) [((0, 0, 0, 0, ()), 0), ((10, 4, 0, 0, ()), 1), ((0, 0, 0, 0, ()), 2), ((0, 0, 0, 0, ()), 3), ((1, 1, 0, 5, ()), 6)] [((1, 1, 0, 0, ()), 6), ((10, 4, 0, 0, ()), 1)] (by show bagC (shp 158) _ = _; rw [shp_158]; rfl) (by kernel_rfl) (by kernel_rfl) (by kernel_rfl)
    rw [e]
    have m1 : (b0 158).set 1 (16#8) = putS (1, 1, 0, 0, ()) (16#64) (b0 158) := set_put (N := 16) (j := 1) (by decide) (by decide) _ _ (by decide) _ hl
    have ml1 : (putS (1, 1, 0, 0, ()) (16#64) (b0 158)).length = 16 := put_len (N := 16) (okSp_whole (a := 1) (w := 1) (by decide) (by decide) (by decide) (by decide)) (by decide) _ _ hl
    have ml2 : (putS (10, 4, 0, 0, ()) (BitVec.ofInt 64 n) (putS (1, 1, 0, 0, ()) (16#64) (b0 158))).length = 16 := put_len (N := 16) (okSp_whole (a := 10) (w := 4) (by decide) (by decide) (by decide) (by decide)) (by decide) _ _ ml1
    rw [m1]
    rfl
  · have r1 := b0_raw 158 16 (by kernel_rfl)
    have ln : (((b0 158).length : Nat) : Int) = 16 := by rw [hl]; rfl
    have d1 := decide_eq_false (show ¬ n < 0 by omega)
    have d2 := decide_eq_false (show ¬ p < 0 by omega)
    have d3 := decide_eq_false (show ¬ k < 0 by omega)
    have d4 := decide_eq_false (show ¬ 3 < k by omega)
    have d5 := decide_eq_false (show ¬ 255 < p by omega)
    have z : sizeI 158 = ((16 : Nat) : Int) := by kernel_rfl
    have kn : decide (158 ∈ ops) = true := by decide
    have cl : clsI 158 = 0 := by decide
    have lm : decide (((16 : Nat) : Int) ≤ ((lim : Nat) : Int)) = true := by decide
    have c0 : chk (inLen 0 (List.replicate ((16 : Nat) : Int).toNat (0#8)).length) = some () := by decide
    have nn : (16 : Int) = ((16 : Nat) : Int) := rfl
    unfold reticuleref06_Bytes
    simp only [(known_eq _).2, (size_eq _).2, (cls_eq _).2, z, kn, cl, Option.bind_some, Bool.not_true, cond_false, cond_true, d1, d2, d3, d4, d5, lm, c0, r1, ln, chk_true rfl, decide_true, decide_false, Bool.and_self, Int.reduceLT, Int.reduceEq, Int.reduceLE, Int.natCast_nonneg, Int.le_refl, Int.reduceToNat, c1, c2, jn_inl]
    exact ref_fin (158, a, n, p, k, ()) _ (Nat.le_trans (Nat.le_of_eq hl) (by decide))
theorem rb_160 (a : BitVec 64) (n p k : Int) (g1 : 0 ≤ n) (g2 : 0 ≤ p) (g3 : 0 ≤ k) (g4 : k ≤ 3) (g5 : p ≤ 255) : RB (160, a, n, p, k, ()) := by
  have hl : (b0 160).length = 12 := (b0_len 160).trans (by kernel_rfl)
  have c1 : reticuleref06_lay (b0 160, 6, 4, BitVec.ofInt 64 n) = some (putS (6, 4, 0, 0, ()) (BitVec.ofInt 64 n) (b0 160)) := lay_eq (N := 12) (a := 6) (w := 4) (by decide) (by decide) (by decide) (by decide) (by decide) _ _ hl
  have l1 : (putS (6, 4, 0, 0, ()) (BitVec.ofInt 64 n) (b0 160)).length = 12 := put_len (N := 12) (okSp_whole (a := 6) (w := 4) (by decide) (by decide) (by decide) (by decide)) (by decide) _ _ hl
  refine ⟨putS (6, 4, 0, 0, ()) (BitVec.ofInt 64 n) (b0 160), by rw [l1]; decide, fun hF => ?_, ?_⟩
  · have hs := fits_small hF
    simp only [shp_160] at hs
    obtain ⟨s1, s2, s3, s4⟩ := hs
    simp only [nB, Int.reduceEq, if_true, if_false, Int.reduceToNat, Nat.reduceMul, Nat.reducePow, Int.reducePow] at s1 s3 s4
    have e := same_bytes (160, a, n, p, k, ()) hF none (fun v h => by cases h) (N := 12) (by kernel_rfl) [((0, 0, 0, 0, ()), 0), ((6, 4, 0, 0, ()), 1), ((0, 0, 0, 0, ()), 2), ((0, 0, 0, 0, ()), 3)] [((6, 4, 0, 0, ()), 1)] (by show bagC (shp 160) _ = _; rw [shp_160]; rfl) (by kernel_rfl) (by kernel_rfl) (by kernel_rfl)
    rw [e]
    have ml1 : (putS (6, 4, 0, 0, ()) (BitVec.ofInt 64 n) (b0 160)).length = 12 := put_len (N := 12) (okSp_whole (a := 6) (w := 4) (by decide) (by decide) (by decide) (by decide)) (by decide) _ _ hl
    rfl
  · have r1 := b0_raw 160 12 (by kernel_rfl)
    have ln : (((b0 160).length : Nat) : Int) = 12 := by rw [hl]; rfl
    have d1 := decide_eq_false (show ¬ n < 0 by omega)
    have d2 := decide_eq_false (show ¬ p < 0 by omega)
    have d3 := decide_eq_false (show ¬ k < 0 by omega)
    have d4 := decide_eq_false (show ¬ 3 < k by omega)
    have d5 := decide_eq_false (show ¬ 255 < p by omega)
    have z : sizeI 160 = ((12 : Nat) : Int) := by kernel_rfl
    have kn : decide (160 ∈ ops) = true := by decide
    have cl : clsI 160 = 0 := by decide
    have lm : decide (((12 : Nat) : Int) ≤ ((lim : Nat) : Int)) = true := by decide
    have c0 : chk (inLen 0 (List.replicate ((12 : Nat) : Int).toNat (0#8)).length) = some () := by decide
    have nn : (12 : Int) = ((12 : Nat) : Int) := rfl
    unfold reticuleref06_Bytes
    simp only [(known_eq _).2, (size_eq _).2, (cls_eq _).2, z, kn, cl, Option.bind_some, Bool.not_true, cond_false, cond_true, d1, d2, d3, d4, d5, lm, c0, r1, ln, chk_true rfl, decide_true, decide_false, Bool.and_self, Int.reduceLT, Int.reduceEq, Int.reduceLE, Int.natCast_nonneg, Int.le_refl, Int.reduceToNat, c1, jn_inl]
    exact ref_fin (160, a, n, p, k, ()) _ (Nat.le_trans (Nat.le_of_eq hl) (by decide))
end Cdb
end Go.Proofs.Ytnhmeldgpgidiaa
