/- The plain laws of chapter 15: each answer is true. -/
import Derived.Test.YtmlfojdgfimfbaaNumL
import Derived.Test.YtmlfojdgfimfbaaNumG
import Derived.Test.YtmlfojdgfimfbaaNumM
import Derived.KernelRfl
namespace Go.Proofs.Ytmlfojdgfimfbaa
open Go Go.Re
set_option linter.unusedVariables false
set_option linter.unusedSimpArgs false
theorem alive_ok : reticulelaw15_alive () = some true := by kernel_rfl
abbrev Rq := Int × (Int × (Int × (Int × (Int × Unit))))
/-- what a request may be -/
def okR (x : Rq) : Prop := (0 ≤ x.1 ∧ x.1 < 256) ∧ (0 ≤ x.2.1 ∧ x.2.1 < 256) ∧ (0 ≤ x.2.2.1 ∧ x.2.2.1 < 65536) ∧ (0 ≤ x.2.2.2.1 ∧ x.2.2.2.1 < 65536) ∧ (0 ≤ x.2.2.2.2.1 ∧ x.2.2.2.2.1 < 65536)
instance (x : Rq) : Decidable (okR x) := inferInstanceAs (Decidable (_ ∧ _))
theorem in8 (v : Int) : (v = ((BitVec.ofInt 8 v).toNat : Int)) ↔ (0 ≤ v ∧ v < 256) := by
  rw [ofInt8]; omega
theorem in16 (v : Int) : (v = ((BitVec.ofInt 16 v).toNat : Int)) ↔ (0 ≤ v ∧ v < 65536) := by
  rw [ofInt16]; omega
theorem and_chain (a b : Bool) : (bif a then some b else some false : Option Bool) = some (a && b) := by cases a <;> rfl
theorem right_eq (x : Rq) : setup_Right x = some (decide (okR x)) := by
  obtain ⟨t, c, v, i, l, u⟩ := x
  simp only [setup_Right, and_chain, Option.bind_some, in8, in16]
  congr 1
  rw [Bool.eq_iff_iff]
  simp only [Bool.and_eq_true, decide_eq_true_eq]
  constructor
  · rintro ⟨⟨⟨⟨h1, h2⟩, h3⟩, h4⟩, h5⟩; exact ⟨h1, h2, h3, h4, h5⟩
  · rintro ⟨h1, h2, h3, h4, h5⟩; exact ⟨⟨⟨⟨h1, h2⟩, h3⟩, h4⟩, h5⟩
theorem ref_right' (x : Rq) : reticuleref15_Right x = some (decide (okR x)) := by
  obtain ⟨t, c, v, i, l, u⟩ := x
  simp only [reticuleref15_Right, reticuleref15_byteful, reticuleref15_word, and_chain, Option.bind_some]
  congr 1
  rw [Bool.eq_iff_iff]
  simp only [Bool.and_eq_true, decide_eq_true_eq]
  constructor
  · rintro ⟨⟨⟨⟨h1, h2⟩, h3⟩, h4⟩, h5⟩; exact ⟨h1, h2, h3, h4, h5⟩
  · rintro ⟨h1, h2, h3, h4, h5⟩; exact ⟨⟨⟨⟨h1, h2⟩, h3⟩, h4⟩, h5⟩
def lo (v : Int) : BitVec 8 := BitVec.ofInt 8 v
def hi (v : Int) : BitVec 8 := BitVec.ofInt 8 (v / 256)
theorem lo_nat (v : Int) : ((lo v).toNat : Int) = v % 256 := ofInt8 v
theorem hi_nat (v : Int) : ((hi v).toNat : Int) = v / 256 % 256 := ofInt8 _
theorem bv8 {a b : BitVec 8} (h : (a.toNat : Int) = (b.toNat : Int)) : a = b := BitVec.eq_of_toNat_eq (by omega)
theorem two_bytes (v : Int) (h : 0 ≤ v ∧ v < 65536) : leN 2 (BitVec.ofInt 64 v) = [lo v, hi v] := by
  have e : leN 2 (BitVec.ofInt 64 v) = [(BitVec.ofInt 64 v >>> (8 * 0)).setWidth 8, (BitVec.ofInt 64 v >>> (8 * 1)).setWidth 8] := rfl
  have n : (BitVec.ofInt 64 v).toNat = v.toNat := by rw [BitVec.toNat_ofInt]; omega
  rw [e]
  congr 1
  · apply bv8
    rw [lo_nat, BitVec.toNat_setWidth, BitVec.toNat_ushiftRight, Nat.shiftRight_eq_div_pow, n]
    show ((v.toNat / 1 % 256 : Nat) : Int) = _
    omega
  · congr 1
    apply bv8
    rw [hi_nat, BitVec.toNat_setWidth, BitVec.toNat_ushiftRight, Nat.shiftRight_eq_div_pow, n]
    show ((v.toNat / 256 % 256 : Nat) : Int) = _
    omega
def bytesR (x : Rq) : List (BitVec 8) := [lo x.1, lo x.2.1, lo x.2.2.1, hi x.2.2.1, lo x.2.2.2.1, hi x.2.2.2.1, lo x.2.2.2.2.1, hi x.2.2.2.2.1]
theorem bytes_eq (x : Rq) : setup_Bytes x = some (if okR x then (bytesR x, true) else ([], false)) := by
  simp only [setup_Bytes, right_eq, Option.bind_some]
  by_cases h : okR x
  · obtain ⟨t, c, v, i, l, u⟩ := x
    have h' := h
    obtain ⟨h1, h2, h3, h4, h5⟩ := h
    simp only at h1 h2 h3 h4 h5
    have step : ∀ n (acc : List (BitVec 8)) (k : Nat) (y : Int), acc.length ≤ 100 → ([v, i, l] : List Int)[k]? = some y → (0 ≤ y ∧ y < 65536) → k < 3 →
        setup_Bytes_L0 (n + 1) (acc, [v, i, l], (k : Int)) = setup_Bytes_L0 n (acc ++ [lo y, hi y], [v, i, l], ((k + 1 : Nat) : Int)) := by
      intro n acc k y ha hy hy2 hk
      have hk' : (k : Int) < 3 := by omega
      conv => lhs; unfold setup_Bytes_L0
      simp only [decide_eq_true hk', cond_true, ix_nat, hy, Option.bind_some, putLittle_eq, if_pos (show (1 : Int) ≤ 2 ∧ (2 : Int) ≤ 8 by omega), show (2 : Int).toNat = 2 from rfl, two_bytes y hy2]
      rw [concat_eq _ (by simp; omega) (by simp)]
      simp only [Option.bind_some, w64_succ k (by omega)]
      simp
    have s0 := step 18446744073709551615 [BitVec.ofInt 8 t, BitVec.ofInt 8 c] 0 v (by simp) rfl h3 (by omega)
    have s1 := step 18446744073709551614 ([BitVec.ofInt 8 t, BitVec.ofInt 8 c] ++ [lo v, hi v]) 1 i (by simp) rfl h4 (by omega)
    have s2 := step 18446744073709551613 ([BitVec.ofInt 8 t, BitVec.ofInt 8 c] ++ [lo v, hi v] ++ [lo i, hi i]) 2 l (by simp) rfl h5 (by omega)
    have s3 : setup_Bytes_L0 18446744073709551613 ([BitVec.ofInt 8 t, BitVec.ofInt 8 c] ++ [lo v, hi v] ++ [lo i, hi i] ++ [lo l, hi l], [v, i, l], ((3 : Nat) : Int)) =
        some (Sum.inl ([BitVec.ofInt 8 t, BitVec.ofInt 8 c] ++ [lo v, hi v] ++ [lo i, hi i] ++ [lo l, hi l])) := by
      rw [show (18446744073709551613 : Nat) = 18446744073709551612 + 1 from rfl]
      unfold setup_Bytes_L0; rfl
    have sAll : setup_Bytes_L0 Big ([BitVec.ofInt 8 t, BitVec.ofInt 8 c], [v, i, l], 0) = some (Sum.inl ([BitVec.ofInt 8 t, BitVec.ofInt 8 c] ++ [lo v, hi v] ++ [lo i, hi i] ++ [lo l, hi l])) :=
      s0.trans (s1.trans (s2.trans s3))
    simp only [decide_eq_true h', Bool.not_true, cond_false, sAll, jn_inl, if_pos h']
    rfl
  · simp [h]
theorem ref_bytes (x : Rq) : reticuleref15_Bytes x = some (if okR x then (bytesR x, true) else ([], false)) := by
  simp only [reticuleref15_Bytes, ref_right', Option.bind_some]
  by_cases h : okR x
  · obtain ⟨t, c, v, i, l, u⟩ := x
    have h' := h
    obtain ⟨h1, h2, h3, h4, h5⟩ := h
    simp only at h1 h2 h3 h4 h5
    have m : ∀ y : Int, (0 ≤ y ∧ y < 65536) → BitVec.ofInt 8 (y.tmod 256) = lo y := by
      intro y hy; apply bv8; rw [lo_nat, ofInt8, Int.tmod_eq_emod_of_nonneg hy.1]; omega
    have d : ∀ y : Int, (0 ≤ y ∧ y < 65536) → BitVec.ofInt 8 (w64 (y.tdiv 256)) = hi y := by
      intro y hy; apply bv8; rw [hi_nat, ofInt8, Int.tdiv_eq_ediv_of_nonneg hy.1, w64_in (by omega) (by omega)]
    simp only [decide_eq_true h', Bool.not_true, cond_false, if_pos h', m v h3, m i h4, m l h5, d v h3, d i h4, d l h5]
    rfl
  · simp [h]
/-- what eight bytes are -/
def req8 (a b c d e f g h : BitVec 8) : Rq := ((a.toNat : Int), (b.toNat : Int), (c.toNat : Int) + 256 * (d.toNat : Int), (e.toNat : Int) + 256 * (f.toNat : Int), (g.toNat : Int) + 256 * (h.toNat : Int), ())
theorem two_or (a b : BitVec 8) : ((a.setWidth 16 ||| (b.setWidth 16 <<< (((8#64).toNat : Int)).toNat)).toNat : Int) = (a.toNat : Int) + 256 * (b.toNat : Int) := by
  have ha := a.isLt
  have hb := b.isLt
  rw [show (((8#64).toNat : Int)).toNat = 8 from rfl, BitVec.toNat_or, BitVec.toNat_shiftLeft, BitVec.toNat_setWidth, BitVec.toNat_setWidth, Nat.shiftLeft_eq,
    Nat.mod_eq_of_lt (show a.toNat < 2 ^ 16 by omega), Nat.mod_eq_of_lt (show b.toNat < 2 ^ 16 by omega), Nat.mod_eq_of_lt (show b.toNat * 2 ^ 8 < 2 ^ 16 by omega),
    Nat.or_comm, show b.toNat * 2 ^ 8 = 2 ^ 8 * b.toNat by omega, ← Nat.two_pow_add_eq_or_of_lt (show a.toNat < 2 ^ 8 by omega)]
  omega
theorem parse8 (a b c d e f g h : BitVec 8) : setup_Parse [a, b, c, d, e, f, g, h] = some (req8 a b c d e f g h, true) := by
  have t : ∀ (p q : BitVec 8) (r : List (BitVec 8)), setup_two (p :: q :: r) = some ((p.toNat : Int) + 256 * (q.toNat : Int)) := by
    intro p q r
    simp only [setup_two, show ∀ l : List (BitVec 8), ix l 0 = l[0]? from fun l => ix_nat l 0, show ∀ l : List (BitVec 8), ix l 1 = l[1]? from fun l => ix_nat l 1, List.getElem?_cons_zero, List.getElem?_cons_succ, Option.bind_some, two_or]
  simp only [setup_Parse, show ∀ l : List (BitVec 8), ix l 0 = l[0]? from fun l => ix_nat l 0, show ∀ l : List (BitVec 8), ix l 1 = l[1]? from fun l => ix_nat l 1, List.getElem?_cons_zero, List.getElem?_cons_succ, Option.bind_some,
    show (2 : Int).toNat = 2 from rfl, show (4 : Int).toNat = 4 from rfl, show (6 : Int).toNat = 6 from rfl, List.drop_succ_cons, List.drop_zero, t]
  rfl
theorem ref_parse8 (a b c d e f g h : BitVec 8) : reticuleref15_Parse [a, b, c, d, e, f, g, h] = some (req8 a b c d e f g h, true) := by
  have ha := fun x : BitVec 8 => x.isLt
  have w : ∀ p q : BitVec 8, w64 ((p.toNat : Int) + (w64 ((256 : Int) * (q.toNat : Int)))) = (p.toNat : Int) + 256 * (q.toNat : Int) := by
    intro p q
    have := ha p
    have := ha q
    rw [w64_in (n := (256 : Int) * (q.toNat : Int)) (by omega) (by omega), w64_in (by omega) (by omega)]
  have i : ∀ (l : List (BitVec 8)) (n : Nat), ix l (n : Int) = l[n]? := fun l n => ix_nat l n
  have i0 := fun l => i l 0
  have i1 := fun l => i l 1
  have i2 := fun l => i l 2
  have i3 := fun l => i l 3
  have i4 := fun l => i l 4
  have i5 := fun l => i l 5
  have i6 := fun l => i l 6
  have i7 := fun l => i l 7
  simp only [Int.natCast_zero, Int.natCast_one, show ((2 : Nat) : Int) = 2 from rfl, show ((3 : Nat) : Int) = 3 from rfl, show ((4 : Nat) : Int) = 4 from rfl, show ((5 : Nat) : Int) = 5 from rfl, show ((6 : Nat) : Int) = 6 from rfl, show ((7 : Nat) : Int) = 7 from rfl] at i0 i1 i2 i3 i4 i5 i6 i7
  simp only [reticuleref15_Parse, i0, i1, i2, i3, i4, i5, i6, i7, List.getElem?_cons_zero, List.getElem?_cons_succ, Option.bind_some, w]
  rfl
theorem eight (x : List (BitVec 8)) (h : x.length = 8) : ∃ a b c d e f g i, x = [a, b, c, d, e, f, g, i] := by
  match x, h with
  | [a, b, c, d, e, f, g, i], _ => exact ⟨a, b, c, d, e, f, g, i, rfl⟩
theorem rq_eq (x : Rq) : ((decide (x.1 = x.1)) && ((decide (x.2.1 = x.2.1)) && ((decide (x.2.2.1 = x.2.2.1)) && ((decide (x.2.2.2.1 = x.2.2.2.1)) && ((decide (x.2.2.2.2.1 = x.2.2.2.2.1)) && true))))) = true := by simp
theorem SetupParses_pure (x) : reticulelaw15_SetupParses x = some true := by
  simp only [reticulelaw15_SetupParses, alive_ok, Option.bind_some, Bool.not_true, cond_false]
  by_cases h : (100 : Int) < x.length
  · simp [h]
  by_cases h8 : x.length = 8
  · obtain ⟨a, b, c, d, e, f, g, i, rfl⟩ := eight x h8
    simp only [decide_eq_false h, cond_false, parse8, ref_parse8, Option.bind_some, rq_eq, cond_true, decide_true]
    rfl
  · have h8' : ¬ ((x.length : Int) = 8) := by omega
    simp [h, setup_Parse, reticuleref15_Parse, h8']
theorem SetupBytes_pure (x) : reticulelaw15_SetupBytes x = some true := by
  simp only [reticulelaw15_SetupBytes, alive_ok, Option.bind_some, Bool.not_true, cond_false, bytes_eq, ref_bytes, right_eq]
  by_cases h : okR x
  · have c : (bytesR x).length ≤ lim := by show 8 ≤ 2147483648; omega
    simp only [if_pos h, chk_dec c, Option.bind_some, decide_true, cond_true, decide_eq_true h]
  · have c : ([] : List (BitVec 8)).length ≤ lim := by simp
    simp only [if_neg h, chk_dec c, Option.bind_some, decide_true, cond_true, decide_eq_false h]
/-- bits of a number, as a quotient's rest -/
theorem bits_nat (x : BitVec 64) (f n : Nat) (hf : f + n ≤ 64) (hn : 1 ≤ n) : ((x &&& maskBV f n) >>> f).toNat = x.toNat / 2 ^ f % 2 ^ n := by
  have h2 : x.toNat / 2 ^ f % 2 ^ n < 2 ^ 64 := Nat.lt_of_le_of_lt (Nat.mod_le _ _) (Nat.lt_of_le_of_lt (Nat.div_le_self _ _) x.isLt)
  have : (x &&& maskBV f n) >>> f = BitVec.ofNat 64 (x.toNat / 2 ^ f % 2 ^ n) := by
    apply BitVec.eq_of_getLsbD_eq
    intro k hk
    rw [bits_bit x f n k hf hn, BitVec.getLsbD_ofNat, Nat.testBit_mod_two_pow, Nat.testBit_div_two_pow]
    simp [hk, BitVec.getLsbD, Nat.add_comm]
  rw [this, BitVec.toNat_ofNat]; exact Nat.mod_eq_of_lt h2
theorem kind_eq (x : Rq) (f n : Nat) (hf : f + n ≤ 64) (hn : 1 ≤ n) : setup_kind (x, (f : Int), (n : Int)) = some (if okR x then ((x.1.toNat / 2 ^ f % 2 ^ n : Nat) : Int) else 0) := by
  simp only [setup_kind, right_eq, Option.bind_some]
  by_cases h : okR x
  · have h1 := h.1
    have hb : bitsIn (f : Int) (n : Int) := by unfold bitsIn; omega
    have e : (BitVec.ofInt 64 x.1).toNat = x.1.toNat := by rw [BitVec.toNat_ofInt]; omega
    have hle : x.1.toNat / 2 ^ f % 2 ^ n ≤ x.1.toNat := Nat.le_trans (Nat.mod_le _ _) (Nat.div_le_self _ _)
    simp only [decide_eq_true h, Bool.not_true, cond_false, num_bits, if_pos hb, Option.bind_some, Int.toNat_natCast, bits_nat _ f n hf hn, e, if_pos h]
    rw [w64_in (by omega) (by omega)]
  · simp [h]
theorem SetupKinds_pure (x) : reticulelaw15_SetupKinds x = some true := by
  have k1 := kind_eq x 7 1 (by omega) (by omega)
  have k2 := kind_eq x 5 2 (by omega) (by omega)
  have k3 := kind_eq x 0 5 (by omega) (by omega)
  simp only [show ((7 : Nat) : Int) = 7 from rfl, show ((1 : Nat) : Int) = 1 from rfl, show ((5 : Nat) : Int) = 5 from rfl, show ((2 : Nat) : Int) = 2 from rfl, show ((0 : Nat) : Int) = 0 from rfl] at k1 k2 k3
  have hd : ∃ r, setup_Dir x = some r ∧ reticuleref15_Dir x = some r := by
    simp only [setup_Dir, reticuleref15_Dir, right_eq, ref_right', k1, Option.bind_some]
    by_cases h : okR x
    · have h1 := h.1
      by_cases h0 : x.2.2.2.2.1 = 0
      · exact ⟨0, by simp [h0], by simp [h, h0]⟩
      · by_cases h7 : 128 ≤ x.1
        · have : ((x.1.toNat / 2 ^ 7 % 2 ^ 1 : Nat) : Int) = 1 := by omega
          exact ⟨1, by simp only [h0, h, this, decide_true, decide_false, cond_false, cond_true, Bool.not_true, Option.bind_some, if_true], by simp [h, h0, h7]⟩
        · have : ¬ (((x.1.toNat / 2 ^ 7 % 2 ^ 1 : Nat) : Int) = 1) := by omega
          exact ⟨2, by simp only [h0, h, this, decide_true, decide_false, cond_false, cond_true, Bool.not_true, Option.bind_some, if_true], by simp [h, h0, h7]⟩
    · refine ⟨0, ?_, by simp [h]⟩
      by_cases h0 : x.2.2.2.2.1 = 0
      · simp [h0]
      · simp [h, h0]
  have hc : ∃ r, setup_Class x = some r ∧ reticuleref15_Class x = some r := by
    simp only [setup_Class, reticuleref15_Class, ref_right', k2, Option.bind_some]
    by_cases h : okR x
    · have h1 := h.1
      refine ⟨_, rfl, ?_⟩
      simp only [h, decide_true, Bool.not_true, cond_false, if_true]
      rw [Int.tdiv_eq_ediv_of_nonneg h1.1, w64_in (by omega) (by omega), Int.tmod_eq_emod_of_nonneg (by omega)]
      congr 1; omega
    · exact ⟨0, by simp [h], by simp [h]⟩
  have hw : ∃ r, setup_Whom x = some r ∧ reticuleref15_Whom x = some r := by
    simp only [setup_Whom, reticuleref15_Whom, ref_right', k3, Option.bind_some]
    by_cases h : okR x
    · have h1 := h.1
      refine ⟨_, rfl, ?_⟩
      simp only [h, decide_true, Bool.not_true, cond_false, if_true]
      rw [Int.tmod_eq_emod_of_nonneg h1.1]
      congr 1; omega
    · exact ⟨0, by simp [h], by simp [h]⟩
  obtain ⟨r1, a1, a2⟩ := hd
  obtain ⟨r2, a3, a4⟩ := hc
  obtain ⟨r3, a5, a6⟩ := hw
  simp only [reticulelaw15_SetupKinds, alive_ok, Option.bind_some, Bool.not_true, cond_false, a1, a2, a3, a4, a5, a6, decide_true, cond_true]
theorem one_shl (j : Nat) (h : j < 8) (c : BitVec 8) : ((c ^^^ ((1#8) <<< j)).toNat : Int) ≠ (c.toNat : Int) := by
  intro he
  have e := bv8 he
  have : (c ^^^ ((1#8) <<< j)).getLsbD j = c.getLsbD j := by rw [e]
  rw [BitVec.getLsbD_xor, BitVec.getLsbD_shiftLeft] at this
  simp [h] at this
theorem SetupTurned_pure (x) : reticulelaw15_SetupTurned x = some true := by
  obtain ⟨r, bit⟩ := x
  simp only [reticulelaw15_SetupTurned, alive_ok, Option.bind_some, Bool.not_true, cond_false, bytes_eq]
  by_cases h : okR r
  · obtain ⟨j, hj, hj8⟩ : ∃ j : Nat, (bit % (8#8)).toNat = j ∧ j < 8 := ⟨_, rfl, by rw [BitVec.toNat_umod]; exact Nat.mod_lt _ (by decide)⟩
    obtain ⟨k, hk, hk8⟩ : ∃ k : Nat, ((bit / (8#8)) % (8#8)).toNat = k ∧ k < 8 := ⟨_, rfl, by rw [BitVec.toNat_umod]; exact Nat.mod_lt _ (by decide)⟩
    have c1 : (([] : List (BitVec 8)).length + (bytesR r).length ≤ lim) := by show 0 + 8 ≤ 2147483648; omega
    have c2 : inLen (k : Int) (bytesR r).length = true := inLen_nat (by show k < 8; exact hk8)
    have c3 : (0 : Int) ≤ (j : Int) := by omega
    have h8 : ((bytesR r).length : Int) = 8 := rfl
    have hdelta := one_shl j hj8
    simp only [if_pos h, h8, decide_true, Bool.not_true, cond_false, Option.bind_some, hj, hk, chk_dec c1, chk_true c2, List.nil_append, Int.toNat_natCast, decide_eq_true c3, cond_true]
    obtain ⟨t, c, v, i, l, u⟩ := r
    obtain ⟨h1, h2, h3, h4, h5⟩ := h
    simp only at h1 h2 h3 h4 h5
    have t1 := lo_nat t
    have c1' := lo_nat c
    have v1 := lo_nat v
    have v2 := hi_nat v
    have i1 := lo_nat i
    have i2 := hi_nat i
    have l1 := lo_nat l
    have l2 := hi_nat l
    have d1 := hdelta (lo t)
    have d2 := hdelta (lo c)
    have d3 := hdelta (lo v)
    have d4 := hdelta (hi v)
    have d5 := hdelta (lo i)
    have d6 := hdelta (hi i)
    have d7 := hdelta (lo l)
    have d8 := hdelta (hi l)
    clear hdelta
    rcases (show k = 0 ∨ k = 1 ∨ k = 2 ∨ k = 3 ∨ k = 4 ∨ k = 5 ∨ k = 6 ∨ k = 7 by omega) with rfl | rfl | rfl | rfl | rfl | rfl | rfl | rfl
    all_goals
      simp only [bytesR, List.getElem?_cons_zero, List.getElem?_cons_succ, List.set_cons_zero, List.set_cons_succ, Option.bind_some, parse8, req8, cond_true]
      simp only [Option.bind_some, Option.some.injEq, Bool.not_eq_true', Bool.and_eq_false_iff, decide_eq_false_iff_not]
    · left; omega
    · right; left; omega
    · right; right; left; omega
    · right; right; left; omega
    · right; right; right; left; omega
    · right; right; right; left; omega
    · right; right; right; right; left; omega
    · right; right; right; right; left; omega
  · simp [h]
end Go.Proofs.Ytmlfojdgfimfbaa
