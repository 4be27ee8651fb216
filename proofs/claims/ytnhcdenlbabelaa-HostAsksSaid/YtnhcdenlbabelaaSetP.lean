/- Plain laws of chapter 15: a request's bytes. -/
import Derived.Test.YtnhcdenlbabelaaNumL
import Derived.Test.YtnhcdenlbabelaaNumG
import Derived.Test.YtnhcdenlbabelaaNumM
import Derived.KernelRfl
namespace Go.Proofs.Ytnhcdenlbabelaa
open Go Go.Re
set_option linter.unusedVariables false
set_option linter.unusedSimpArgs false
namespace Su
abbrev Rq := Int × (Int × (Int × (Int × (Int × Unit))))
/-- what a request may be -/
def okR (x : Rq) : Prop := (0 ≤ x.1 ∧ x.1 < 256) ∧ (0 ≤ x.2.1 ∧ x.2.1 < 256) ∧ (0 ≤ x.2.2.1 ∧ x.2.2.1 < 65536) ∧ (0 ≤ x.2.2.2.1 ∧ x.2.2.2.1 < 65536) ∧ (0 ≤ x.2.2.2.2.1 ∧ x.2.2.2.2.1 < 65536)
instance (x : Rq) : Decidable (okR x) := inferInstanceAs (Decidable (_ ∧ _))
theorem in8 (v : Int) : (v = ((BitVec.ofInt 8 v).toNat : Int)) ↔ (0 ≤ v ∧ v < 256) := by
  rw [ofInt8]; omega
theorem in16 (v : Int) : (v = ((BitVec.ofInt 16 v).toNat : Int)) ↔ (0 ≤ v ∧ v < 65536) := by
  rw [ofInt16]; omega
theorem and_chain (a b : Bool) : (bif a then some b else some false : Option Bool) = some (a && b) := by cases a <;> rfl
theorem right_eq (x : Rq) : setup_Right x = some (decide (okR x)) := by
  obtain ⟨t, c, v, i, l, u⟩ := x
  simp only [setup_Right, and_chain, Option.bind_some, in8, in16]
  congr 1
  rw [Bool.eq_iff_iff]
  simp only [Bool.and_eq_true, decide_eq_true_eq]
  constructor
  · rintro ⟨⟨⟨⟨h1, h2⟩, h3⟩, h4⟩, h5⟩; exact ⟨h1, h2, h3, h4, h5⟩
  · rintro ⟨h1, h2, h3, h4, h5⟩; exact ⟨⟨⟨⟨h1, h2⟩, h3⟩, h4⟩, h5⟩
theorem ref_right' (x : Rq) : reticuleref15_Right x = some (decide (okR x)) := by
  obtain ⟨t, c, v, i, l, u⟩ := x
  simp only [reticuleref15_Right, reticuleref15_byteful, reticuleref15_word, and_chain, Option.bind_some]
  congr 1
  rw [Bool.eq_iff_iff]
  simp only [Bool.and_eq_true, decide_eq_true_eq]
  constructor
  · rintro ⟨⟨⟨⟨h1, h2⟩, h3⟩, h4⟩, h5⟩; exact ⟨h1, h2, h3, h4, h5⟩
  · rintro ⟨h1, h2, h3, h4, h5⟩; exact ⟨⟨⟨⟨h1, h2⟩, h3⟩, h4⟩, h5⟩
def lo (v : Int) : BitVec 8 := BitVec.ofInt 8 v
def hi (v : Int) : BitVec 8 := BitVec.ofInt 8 (v / 256)
theorem lo_nat (v : Int) : ((lo v).toNat : Int) = v % 256 := ofInt8 v
theorem hi_nat (v : Int) : ((hi v).toNat : Int) = v / 256 % 256 := ofInt8 _
theorem bv8 {a b : BitVec 8} (h : (a.toNat : Int) = (b.toNat : Int)) : a = b := BitVec.eq_of_toNat_eq (by omega)
theorem two_bytes (v : Int) (h : 0 ≤ v ∧ v < 65536) : leN 2 (BitVec.ofInt 64 v) = [lo v, hi v] := by
  have e : leN 2 (BitVec.ofInt 64 v) = [(BitVec.ofInt 64 v >>> (8 * 0)).setWidth 8, (BitVec.ofInt 64 v >>> (8 * 1)).setWidth 8] := rfl
  have n : (BitVec.ofInt 64 v).toNat = v.toNat := by rw [BitVec.toNat_ofInt]; omega
  rw [e]
  congr 1
  · apply bv8
    rw [lo_nat, BitVec.toNat_setWidth, BitVec.toNat_ushiftRight, Nat.shiftRight_eq_div_pow, n]
    show ((v.toNat / 1 % 256 : Nat) : Int) = _
    omega
  · congr 1
    apply bv8
    rw [hi_nat, BitVec.toNat_setWidth, BitVec.toNat_ushiftRight, Nat.shiftRight_eq_div_pow, n]
    show ((v.toNat / 256 % 256 : Nat) : Int) = _
    omega
def bytesR (x : Rq) : List (BitVec 8) := [lo x.1, lo x.2.1, lo x.2.2.1, hi x.2.2.1, lo x.2.2.2.1, hi x.2.2.2.1, lo x.2.2.2.2.1, hi x.2.2.2.2.1]
theorem bytes_eq (x : Rq) : setup_Bytes x = some (if okR x then (bytesR x, true) else ([], false)) := by
  simp only [setup_Bytes, right_eq, Option.bind_some]
  by_cases h : okR x
  · obtain ⟨t, c, v, i, l, u⟩ := x
    have h' := h
    obtain ⟨h1, h2, h3, h4, h5⟩ := h
    simp only at h1 h2 h3 h4 h5
    have step : ∀ n (acc : List (BitVec 8)) (k : Nat) (y : Int), acc.length ≤ 100 → ([v, i, l] : List Int)[k]? = some y → (0 ≤ y ∧ y < 65536) → k < 3 →
        setup_Bytes_L0 (n + 1) (acc, [v, i, l], (k : Int)) = setup_Bytes_L0 n (acc ++ [lo y, hi y], [v, i, l], ((k + 1 : Nat) : Int)) := by
      intro n acc k y ha hy hy2 hk
      have hk' : (k : Int) < 3 := by omega
      conv => lhs; unfold setup_Bytes_L0
      simp only [decide_eq_true hk', cond_true, ix_nat, hy, Option.bind_some, putLittle_eq, if_pos (show (1 : Int) ≤ 2 ∧ (2 : Int) ≤ 8 by omega), show (2 : Int).toNat = 2 from rfl, two_bytes y hy2]
      rw [concat_eq _ (by simp; omega) (by simp)]
      simp only [Option.bind_some, w64_succ k (by omega)]
      simp
    have s0 := step 18446744073709551615 [BitVec.ofInt 8 t, BitVec.ofInt 8 c] 0 v (by simp) rfl h3 (by omega)
    have s1 := step 18446744073709551614 ([BitVec.ofInt 8 t, BitVec.ofInt 8 c] ++ [lo v, hi v]) 1 i (by simp) rfl h4 (by omega)
    have s2 := step 18446744073709551613 ([BitVec.ofInt 8 t, BitVec.ofInt 8 c] ++ [lo v, hi v] ++ [lo i, hi i]) 2 l (by simp) rfl h5 (by omega)
    have s3 : setup_Bytes_L0 18446744073709551613 ([BitVec.ofInt 8 t, BitVec.ofInt 8 c] ++ [lo v, hi v] ++ [lo i, hi i] ++ [lo l, hi l], [v, i, l], ((3 : Nat) : Int)) =
        some (Sum.inl ([BitVec.ofInt 8 t, BitVec.ofInt 8 c] ++ [lo v, hi v] ++ [lo i, hi i] ++ [lo l, hi l])) := by
      rw [show (18446744073709551613 : Nat) = 18446744073709551612 + 1 from rfl]
      unfold setup_Bytes_L0; rfl
    have sAll : setup_Bytes_L0 Big ([BitVec.ofInt 8 t, BitVec.ofInt 8 c], [v, i, l], 0) = some (Sum.inl ([BitVec.ofInt 8 t, BitVec.ofInt 8 c] ++ [lo v, hi v] ++ [lo i, hi i] ++ [lo l, hi l])) :=
      s0.trans (s1.trans (s2.trans s3))
    simp only [decide_eq_true h', Bool.not_true, cond_false, sAll, jn_inl, if_pos h']
    rfl
  · simp [h]
theorem ref_bytes (x : Rq) : reticuleref15_Bytes x = some (if okR x then (bytesR x, true) else ([], false)) := by
  simp only [reticuleref15_Bytes, ref_right', Option.bind_some]
  by_cases h : okR x
  · obtain ⟨t, c, v, i, l, u⟩ := x
    have h' := h
    obtain ⟨h1, h2, h3, h4, h5⟩ := h
    simp only at h1 h2 h3 h4 h5
    have m : ∀ y : Int, (0 ≤ y ∧ y < 65536) → BitVec.ofInt 8 (y.tmod 256) = lo y := by
      intro y hy; apply bv8; rw [lo_nat, ofInt8, Int.tmod_eq_emod_of_nonneg hy.1]; omega
    have d : ∀ y : Int, (0 ≤ y ∧ y < 65536) → BitVec.ofInt 8 (w64 (y.tdiv 256)) = hi y := by
      intro y hy; apply bv8; rw [hi_nat, ofInt8, Int.tdiv_eq_ediv_of_nonneg hy.1, w64_in (by omega) (by omega)]
    simp only [decide_eq_true h', Bool.not_true, cond_false, if_pos h', m v h3, m i h4, m l h5, d v h3, d i h4, d l h5]
    rfl
  · simp [h]
/-- bits of a number, as a quotient's rest -/
theorem bits_nat (x : BitVec 64) (f n : Nat) (hf : f + n ≤ 64) (hn : 1 ≤ n) : ((x &&& maskBV f n) >>> f).toNat = x.toNat / 2 ^ f % 2 ^ n := by
  have h2 : x.toNat / 2 ^ f % 2 ^ n < 2 ^ 64 := Nat.lt_of_le_of_lt (Nat.mod_le _ _) (Nat.lt_of_le_of_lt (Nat.div_le_self _ _) x.isLt)
  have : (x &&& maskBV f n) >>> f = BitVec.ofNat 64 (x.toNat / 2 ^ f % 2 ^ n) := by
    apply BitVec.eq_of_getLsbD_eq
    intro k hk
    rw [bits_bit x f n k hf hn, BitVec.getLsbD_ofNat, Nat.testBit_mod_two_pow, Nat.testBit_div_two_pow]
    simp [hk, BitVec.getLsbD, Nat.add_comm]
  rw [this, BitVec.toNat_ofNat]; exact Nat.mod_eq_of_lt h2
theorem kind_eq (x : Rq) (f n : Nat) (hf : f + n ≤ 64) (hn : 1 ≤ n) : setup_kind (x, (f : Int), (n : Int)) = some (if okR x then ((x.1.toNat / 2 ^ f % 2 ^ n : Nat) : Int) else 0) := by
  simp only [setup_kind, right_eq, Option.bind_some]
  by_cases h : okR x
  · have h1 := h.1
    have hb : bitsIn (f : Int) (n : Int) := by unfold bitsIn; omega
    have e : (BitVec.ofInt 64 x.1).toNat = x.1.toNat := by rw [BitVec.toNat_ofInt]; omega
    have hle : x.1.toNat / 2 ^ f % 2 ^ n ≤ x.1.toNat := Nat.le_trans (Nat.mod_le _ _) (Nat.div_le_self _ _)
    simp only [decide_eq_true h, Bool.not_true, cond_false, num_bits, if_pos hb, Option.bind_some, Int.toNat_natCast, bits_nat _ f n hf hn, e, if_pos h]
    rw [w64_in (by omega) (by omega)]
  · simp [h]
/-- where a request's data go -/
def dirR (x : Rq) : Int := if okR x ∧ x.2.2.2.2.1 ≠ 0 then (if 128 ≤ x.1 then 1 else 2) else 0
theorem dir_eq (x : Rq) : setup_Dir x = some (dirR x) ∧ reticuleref15_Dir x = some (dirR x) := by
  have k1 := kind_eq x 7 1 (by omega) (by omega)
  simp only [show ((7 : Nat) : Int) = 7 from rfl, show ((1 : Nat) : Int) = 1 from rfl] at k1
  simp only [setup_Dir, reticuleref15_Dir, right_eq, ref_right', k1, Option.bind_some]
  unfold dirR
  by_cases h : okR x
  · have h1 := h.1
    by_cases h0 : x.2.2.2.2.1 = 0
    · exact ⟨by simp [h0], by simp [h, h0]⟩
    · by_cases h7 : 128 ≤ x.1
      · have : ((x.1.toNat / 2 ^ 7 % 2 ^ 1 : Nat) : Int) = 1 := by omega
        exact ⟨by simp only [h0, h, h7, this, decide_true, decide_false, cond_false, cond_true, Bool.not_true, Option.bind_some, if_true, ne_eq, not_false_eq_true, and_self], by simp [h, h0, h7]⟩
      · have : ¬ (((x.1.toNat / 2 ^ 7 % 2 ^ 1 : Nat) : Int) = 1) := by omega
        exact ⟨by simp only [h0, h, h7, this, decide_true, decide_false, cond_false, cond_true, Bool.not_true, Option.bind_some, if_true, if_false, ne_eq, not_false_eq_true, and_self], by simp [h, h0, h7]⟩
  · by_cases h0 : x.2.2.2.2.1 = 0
    · exact ⟨by simp [h0], by simp [h]⟩
    · exact ⟨by simp [h, h0], by simp [h]⟩
end Su
end Go.Proofs.Ytnhcdenlbabelaa
