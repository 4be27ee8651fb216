/- The plain laws of chapter 1: each answer is true. -/
import Derived.Test.YtibfmdehmdploaaNumR
import Derived.Test.YtibfmdehmdploaaNumC
import Derived.Test.YtibfmdehmdploaaRefB
import Derived.Test.YtibfmdehmdploaaRefC
import Derived.Test.YtibfmdehmdploaaRefD
import Derived.Test.YtibfmdehmdploaaRefT
import Derived.KernelRfl
namespace Go.Proofs.Ytibfmdehmdploaa
open Go Go.Re
set_option linter.unusedVariables false
set_option linter.unusedSimpArgs false
theorem alive_ok : reticulelaw01_alive () = some true := by kernel_rfl
theorem NumberReads_pure (x) : reticulelaw01_NumberReads x = some true := by
  obtain ⟨b, a, w⟩ := x
  simp only [reticulelaw01_NumberReads, alive_ok, Option.bind_some, Bool.not_true, cond_false]
  by_cases h : (2000 : Int) < b.length
  · simp [h]
  have hb : b.length ≤ 140737488355328 := by omega
  simp only [h, decide_false, cond_false, num_big b a w hb, ref_big b a w hb, num_little b a w hb, ref_little b a w hb, Option.bind_some]
  simp
theorem NumberPuts_pure (x) : reticulelaw01_NumberPuts x = some true := by
  obtain ⟨x, w⟩ := x
  simp only [reticulelaw01_NumberPuts, alive_ok, Option.bind_some, Bool.not_true, cond_false, putBig_eq, ref_putBig, putLittle_eq, ref_putLittle]
  have h1 : (if 1 ≤ w ∧ w ≤ 8 then leN w.toNat x else []).length ≤ lim := by
    show _ ≤ 2147483648
    split
    · rw [leN_length]; omega
    · simp
  have h2 : (if 1 ≤ w ∧ w ≤ 8 then (leN w.toNat x).reverse else []).length ≤ lim := by
    show _ ≤ 2147483648
    split
    · rw [List.length_reverse, leN_length]; omega
    · simp
  simp only [chk_dec h1, chk_dec h2, Option.bind_some, decide_true, cond_true]
theorem NumberTexts_pure (x) : reticulelaw01_NumberTexts x = some true := by
  obtain ⟨s, n⟩ := x
  simp only [reticulelaw01_NumberTexts, alive_ok, Option.bind_some, Bool.not_true, cond_false, num_text, ref_text]
  by_cases h : (2000 : Int) < s.length
  · simp [h]
  by_cases hn : 0 ≤ n ∧ n ≤ 1024
  · have h1 : (textL s n.toNat).length ≤ lim := by rw [textL_length]; show _ ≤ 2147483648; omega
    have h2 : ¬ n < 0 := by omega
    have h3 : ¬ 1024 < n := by omega
    have h4 : ((textL s n.toNat).length : Int) = n := by rw [textL_length]; omega
    simp only [h, decide_false, cond_false, if_pos hn, chk_dec h1, Option.bind_some, decide_true, cond_true, h2, h3, h4]
  · have h1 : ([] : List (BitVec 8)).length ≤ lim := by simp
    by_cases h2 : n < 0
    · simp only [h, decide_false, cond_false, if_neg hn, chk_dec h1, Option.bind_some, decide_true, cond_true, h2]
    · have h3 : 1024 < n := by omega
      simp only [h, decide_false, cond_false, if_neg hn, chk_dec h1, Option.bind_some, decide_true, cond_true, h2, h3]
theorem NumberBits_pure (x) (_ : Ty.ok (.int .u64) x.1) (_ : Ty.ok (.int .u64) x.2.1) (h3 : Ty.ok (.arr 2 (.int .i64)) x.2.2) : reticulelaw01_NumberBits x = some true := by
  obtain ⟨x, y, two⟩ := x
  obtain ⟨hl, _⟩ := h3
  match two, hl with
  | [p, q], _ =>
    simp [reticulelaw01_NumberBits, alive_ok, num_bits, ref_bits, num_set, ref_set, chk, inLen]
/-- what is put is read -/
theorem back_bits (x : BitVec 64) (w : Nat) (h1 : 1 ≤ w) (h8 : w ≤ 8) : BitVec.ofNat 64 (nv (leN w x)) = (x &&& maskBV 0 (8 * w)) >>> 0 := by
  apply BitVec.eq_of_getLsbD_eq
  intro k hk
  rw [bits_bit x 0 (8 * w) k (by omega) (by omega), nv_leN, pow256, BitVec.getLsbD_ofNat, Nat.testBit_mod_two_pow]
  simp [hk, BitVec.getLsbD]
theorem mid_take {α : Type} (a m b : List α) (k : Nat) (h : m.length = k) : (([] ++ a ++ m ++ b).drop a.length).take k = m := by
  subst h; simp
theorem back_loop (a b : List (BitVec 8)) (x : BitVec 64) (ha : a.length ≤ 1000) (hb : b.length ≤ 1000) : ∀ (k w n : Nat), w + k = 9 → 1 ≤ w → k < n →
    reticulelaw01_NumberBack_L0 n (a, b, x, (w : Int)) = some (Sum.inl ()) := by
  intro k
  induction k with
  | zero =>
    intro w n hi h1 hn
    obtain ⟨n, rfl⟩ := Nat.exists_eq_succ_of_ne_zero (show n ≠ 0 by omega)
    have h : ¬ ((w : Int) ≤ 8) := by omega
    simp only [reticulelaw01_NumberBack_L0, decide_eq_false h, cond_false]
  | succ k ih =>
    intro w n hi h1 hn
    obtain ⟨n, rfl⟩ := Nat.exists_eq_succ_of_ne_zero (show n ≠ 0 by omega)
    have h : ((w : Int) ≤ 8) := by omega
    have hin : 1 ≤ (w : Int) ∧ (w : Int) ≤ 8 := by omega
    have l1 : (leN w x).length = w := leN_length w x
    have l2 : (leN w x).reverse.length = w := by rw [List.length_reverse, l1]
    have ew : w64 ((8 : Int) * (w : Int)) = ((8 * w : Nat) : Int) := by rw [w64_in] <;> omega
    have hbi : bitsIn 0 ((8 * w : Nat) : Int) := by unfold bitsIn; omega
    have c1 : ([] : List (BitVec 8)).length + a.length ≤ lim := by show _ ≤ 2147483648; simp; omega
    have c2 : ([] ++ a : List (BitVec 8)).length + (leN w x).reverse.length ≤ lim := by show _ ≤ 2147483648; simp [l1]; omega
    have c3 : ([] ++ a ++ (leN w x).reverse : List (BitVec 8)).length + b.length ≤ lim := by show _ ≤ 2147483648; simp [l1]; omega
    have c4 : ([] ++ a : List (BitVec 8)).length + (leN w x).length ≤ lim := by show _ ≤ 2147483648; simp [l1]; omega
    have c5 : ([] ++ a ++ leN w x : List (BitVec 8)).length + b.length ≤ lim := by show _ ≤ 2147483648; simp [l1]; omega
    have g1 : ([] ++ a ++ (leN w x).reverse ++ b : List (BitVec 8)).length ≤ 140737488355328 := by simp [l1]; omega
    have g2 : ([] ++ a ++ leN w x ++ b : List (BitVec 8)).length ≤ 140737488355328 := by simp [l1]; omega
    have i1 : 1 ≤ (w : Int) ∧ (w : Int) ≤ 8 ∧ 0 ≤ (a.length : Int) ∧ (a.length : Int) ≤ (([] ++ a ++ (leN w x).reverse ++ b : List (BitVec 8)).length : Int) - (w : Int) := by
      refine ⟨by omega, by omega, by omega, ?_⟩; simp [l1]; omega
    have i2 : 1 ≤ (w : Int) ∧ (w : Int) ≤ 8 ∧ 0 ≤ (a.length : Int) ∧ (a.length : Int) ≤ (([] ++ a ++ leN w x ++ b : List (BitVec 8)).length : Int) - (w : Int) := by
      refine ⟨by omega, by omega, by omega, ?_⟩; simp [l1]; omega
    have i3 : 1 ≤ (w : Int) ∧ (w : Int) ≤ 8 ∧ (0 : Int) ≤ 0 ∧ (0 : Int) ≤ ((leN w x).length : Int) - (w : Int) := by rw [l1]; omega
    have i4 : 1 ≤ (w : Int) ∧ (w : Int) ≤ 8 ∧ (0 : Int) ≤ 0 ∧ (0 : Int) ≤ ((leN w x).reverse.length : Int) - (w : Int) := by rw [l2]; omega
    have t1 : (List.take w (leN w x)) = leN w x := List.take_of_length_le (by omega)
    have t2 : (List.take w (leN w x).reverse) = (leN w x).reverse := List.take_of_length_le (by omega)
    rw [← ih (w + 1) n (by omega) (by omega) (by omega), ← w64_succ w (by omega)]
    simp only [reticulelaw01_NumberBack_L0, decide_eq_true h, cond_true, putBig_eq, putLittle_eq, if_pos hin, Int.toNat_natCast, Option.bind_some, chk_dec c1, chk_dec c2, chk_dec c3, chk_dec c4, chk_dec c5,
      num_big _ _ _ g1, num_little _ _ _ g2, if_pos i1, if_pos i2, num_big (leN w x) 0 _ (by omega), num_little (leN w x).reverse 0 _ (by omega), if_pos i3, if_pos i4, mid_take a _ b w l1, mid_take a _ b w l2,
      Int.toNat_zero, List.drop_zero, t1, t2, List.reverse_reverse]
    simp only [l1, l2, ew, num_bits, if_pos hbi, Option.bind_some, Int.toNat_natCast, Int.toNat_zero, back_bits x w h1 (by omega), decide_true, Bool.not_true, cond_false]
theorem NumberBack_pure (x) : reticulelaw01_NumberBack x = some true := by
  obtain ⟨a, b, x⟩ := x
  simp only [reticulelaw01_NumberBack, alive_ok, Option.bind_some, Bool.not_true, cond_false]
  by_cases h1 : (1000 : Int) < a.length
  · simp [h1]
  by_cases h2 : (1000 : Int) < b.length
  · simp [h1, h2]
  have := back_loop a b x (by omega) (by omega) 8 1 Big (by omega) (by omega) (big_lt (by omega))
  rw [show ((1 : Nat) : Int) = 1 from rfl] at this
  simp only [h1, h2, decide_false, cond_false, Option.bind_some, this, jn_inl]
theorem NumberSets_pure (x) (_ : Ty.ok (.int .u64) x.1) (_ : Ty.ok (.int .u64) x.2.1) (h3 : Ty.ok (.arr 2 (.int .u8)) x.2.2) : reticulelaw01_NumberSets x = some true := by
  obtain ⟨x, y, two⟩ := x
  obtain ⟨hl, _⟩ := h3
  match two, hl with
  | [p, q], _ =>
    obtain ⟨f, hf, hf2⟩ : ∃ f : Nat, (p % (64#8)).toNat = f ∧ f < 64 := ⟨_, rfl, by rw [BitVec.toNat_umod]; exact Nat.mod_lt _ (by decide)⟩
    obtain ⟨m, hm, hm2⟩ : ∃ m : Nat, (q % (64#8)).toNat = m ∧ m < 64 := ⟨_, rfl, by rw [BitVec.toNat_umod]; exact Nat.mod_lt _ (by decide)⟩
    have e1 : w64 ((1 : Int) + (m : Int)) = ((m + 1 : Nat) : Int) := by rw [w64_in] <;> omega
    have e2 : w64 ((f : Int) + ((m + 1 : Nat) : Int)) = ((f + (m + 1) : Nat) : Int) := by rw [w64_in] <;> omega
    simp only [reticulelaw01_NumberSets, alive_ok, Option.bind_some, Bool.not_true, cond_false, show chk (inLen 0 2) = some () from rfl, show chk (inLen 1 2) = some () from rfl, show (0 : Int).toNat = 0 from rfl, show (1 : Int).toNat = 1 from rfl,
      List.getElem?_cons_zero, List.getElem?_cons_succ, hf, hm, e1, e2]
    by_cases h64 : (64 : Int) < ((f + (m + 1) : Nat) : Int)
    · simp only [decide_eq_true h64, cond_true]
    have hsum : f + (m + 1) ≤ 64 := by omega
    have e3 : w64 ((64 : Int) - (f : Int)) = ((64 - f : Nat) : Int) := by rw [w64_in] <;> omega
    have e4 : w64 (((64 - f : Nat) : Int) - ((m + 1 : Nat) : Int)) = ((64 - f - (m + 1) : Nat) : Int) := by rw [w64_in] <;> omega
    have b1 : bitsIn (f : Int) ((m + 1 : Nat) : Int) := by unfold bitsIn; omega
    have b2 : bitsIn 0 ((m + 1 : Nat) : Int) := by unfold bitsIn; omega
    simp only [decide_eq_false h64, cond_false, num_set, num_bits, if_pos b1, if_pos b2, Int.toNat_natCast, Int.toNat_zero, Option.bind_some, e3, e4]
    generalize hz : (x &&& ~~~maskBV f (m + 1)) ||| ((y <<< f) &&& maskBV f (m + 1)) = z
    have zb : ∀ k, k < 64 → z.getLsbD k = (if f ≤ k ∧ k < f + (m + 1) then y.getLsbD (k - f) else x.getLsbD k) := fun k hk => by rw [← hz]; exact set_bit x y f (m + 1) k hsum (by omega) hk
    have k1 : (z &&& maskBV f (m + 1)) >>> f = (y &&& maskBV 0 (m + 1)) >>> 0 := by
      apply BitVec.eq_of_getLsbD_eq
      intro k hk
      rw [bits_bit z f (m + 1) k hsum (by omega), bits_bit y 0 (m + 1) k (by omega) (by omega)]
      by_cases hkm : k < m + 1
      · rw [zb (f + k) (by omega), if_pos (by omega)]
        simp [hkm]
      · simp [hkm]
    have k2 : (bif decide ((f : Int) = 0) then some true else some (decide ((if bitsIn 0 (f : Int) then (z &&& maskBV 0 f) >>> 0 else 0#64) = (if bitsIn 0 (f : Int) then (x &&& maskBV 0 f) >>> 0 else 0#64))) : Option Bool) = some true := by
      by_cases h0 : (f : Int) = 0
      · simp [h0]
      · have : (z &&& maskBV 0 f) >>> 0 = (x &&& maskBV 0 f) >>> 0 := by
          apply BitVec.eq_of_getLsbD_eq
          intro k hk
          rw [bits_bit z 0 f k (by omega) (by omega), bits_bit x 0 f k (by omega) (by omega)]
          by_cases hkf : k < f
          · rw [Nat.zero_add, zb k hk, if_neg (by omega)]
          · simp [hkf]
        rw [decide_eq_false h0, cond_false, this]; simp
    have k3 : (bif decide (((f + (m + 1) : Nat) : Int) = 64) then some true else some (decide ((if bitsIn ((f + (m + 1) : Nat) : Int) ((64 - f - (m + 1) : Nat) : Int) then (z &&& maskBV (f + (m + 1)) (64 - f - (m + 1))) >>> (f + (m + 1)) else 0#64) = (if bitsIn ((f + (m + 1) : Nat) : Int) ((64 - f - (m + 1) : Nat) : Int) then (x &&& maskBV (f + (m + 1)) (64 - f - (m + 1))) >>> (f + (m + 1)) else 0#64))) : Option Bool) = some true := by
      by_cases h0 : ((f + (m + 1) : Nat) : Int) = 64
      · simp only [decide_eq_true h0, cond_true]
      · have : (z &&& maskBV (f + (m + 1)) (64 - f - (m + 1))) >>> (f + (m + 1)) = (x &&& maskBV (f + (m + 1)) (64 - f - (m + 1))) >>> (f + (m + 1)) := by
          apply BitVec.eq_of_getLsbD_eq
          intro k hk
          rw [bits_bit z _ _ k (by omega) (by omega), bits_bit x _ _ k (by omega) (by omega)]
          by_cases hkf : k < 64 - f - (m + 1)
          · rw [zb _ (by omega), if_neg (by omega)]
          · simp [hkf]
        rw [decide_eq_false h0, cond_false, this]; simp
    have k4 : (z &&& ~~~maskBV f (m + 1)) ||| ((((x &&& maskBV f (m + 1)) >>> f) <<< f) &&& maskBV f (m + 1)) = x := by
      apply BitVec.eq_of_getLsbD_eq
      intro k hk
      rw [set_bit z _ f (m + 1) k hsum (by omega) hk, zb k hk]
      by_cases hkf : f ≤ k ∧ k < f + (m + 1)
      · rw [if_pos hkf, bits_bit x f (m + 1) _ hsum (by omega), show f + (k - f) = k by omega]
        simp; omega
      · rw [if_neg hkf, if_neg hkf]
    simp only [k1, k2, k3, k4, Option.bind_some, decide_true, cond_true]
end Go.Proofs.Ytibfmdehmdploaa
